/- FnPeelSome: the walk of the law. -/
import Derived.Test.YtcaibhjdahmjeaaDrawM
import Derived.Test.YtcaibhjdahmjeaaRowsEq
import Derived.Test.YtcaibhjdahmjeaaPeelK
import Derived.Test.YtcaibhjdahmjeaaFnSwap
namespace Go.Proofs.Ytcaibhjdahmjeaa
open Go.RowKit
set_option linter.unusedVariables false
set_option linter.unusedSimpArgs false

theorem psome_law {l x : List Cd} {t : Int} (hp : pv l = true) (ht : 0 ≤ t ∧ t ≤ 40) (hx : peelSomeL l t = x) : pv x = true ∧ peelSomeL l 0 = l ∧
    ∀ (n : Nat) (m : List Int), 1 ≤ n ∧ n ≤ 8 → memOk m = true → runOf x (n : Int) m = runOf l n m ∧ wholeOf x (n : Int) m = wholeOf l n m := by
  have e : peelSomeL l t = peelN l t.toNat := by simp [peelSomeL, hp, inR_iff.2 ht]
  rw [e] at hx
  subst hx
  have h0 := peelN_run (n := 1) (by omega) [0] t.toNat l hp
  refine ⟨h0.1, by simp [peelSomeL, hp, inR_iff.2 (show (0 : Int) ≤ 0 ∧ (0 : Int) ≤ 40 by omega), peelN], fun n m hn hm => ?_⟩
  have h := peelN_run hn.2 m t.toNat l hp
  have k := alike_run hp h.1 hn hm h.2
  exact ⟨k.1, k.2.1⟩
theorem psome_bad {l x : List Cd} {t : Int} (h : pv l = false ∨ ¬ (0 ≤ t ∧ t ≤ 40)) (hx : peelSomeL l t = x) : x.length = 0 := by
  subst hx
  rcases h with h | h
  · simp [peelSomeL, h]
  · cases hc : inR t 0 40 with
    | false => simp [peelSomeL, hc]
    | true => exact absurd (inR_iff.1 hc) h
theorem psome_len (l : List Cd) (t : Int) : (peelSomeL l t).length ≤ 40 := by
  cases hp : pv l with
  | false => simp [peelSomeL, hp]
  | true =>
    by_cases ht : 0 ≤ t ∧ t ≤ 40
    · exact (pv_iff.1 (psome_law hp ht rfl).1).1
    · rw [psome_bad (.inr ht) rfl]; omega

set_option maxRecDepth 100000 in
set_option maxHeartbeats 8000000 in
theorem fnPeelSome_c (w : World) (A : Option Addr) (c : Nat) (bs : List Int) (hA : Reads w w.heap.size 1 A bs.length (bs.map (.int .u8))) (hl : bs.length ≤ 9223372036854775807) (hb : ∀ x ∈ bs, 0 ≤ x ∧ x ≤ 255) (hcap : bs.length ≤ c) :
    Calls Try.prog 6 #[.slice A bs.length c] w fun e w' => e = .returned (.bool true) ∧ Below w.heap.size w w' := by
  by_cases hbig0 : 1048576 < bs.length
  · go_enter Try.func6, Try.ntmps6
    go_wp2
    go_ret
    exact ⟨rfl, Below.refl _ _⟩
  · go_enter Try.func6, Try.ntmps6
    go_wp2_with fail
    refine (drawPeelSome_c A c bs w hA hb hl hcap).mono ?_
    rintro e w1 ⟨l, A1, c1, t, rfl, hl2, o1, hB⟩
    have r1 := OC.rd o1
    have hc1 : l.length ≤ c1 := OR.cap_ o1
    have hn1 := fun e => OC.nilc o1 e
    clear o1
    have hlx := psome_len l t
    have HB := Lib.hid (fun h : pv l = false ∨ ¬ (0 ≤ t ∧ t ≤ 40) => psome_bad h rfl)
    have HL := Lib.hid (fun (h : pv l = true) (h2 : 0 ≤ t ∧ t ≤ 40) => psome_law h h2 rfl)
    have HI := Lib.hid (fun W (h : RdC W W.heap.size A1 l) => iPeelSome_c A1 c1 l t W h (by omega) hn1 hc1)
    have HS := Lib.hid (fun W (h : RdC W W.heap.size A1 l) => sPeelSome_c A1 c1 l t W h (by omega) hn1 hc1)
    have H0 := Lib.hid (fun W (h : RdC W W.heap.size A1 l) => iPeelSome_c A1 c1 l 0 W h (by omega) hn1 hc1)
    generalize hxx : peelSomeL l t = x at HI HS HL HB hlx
    clear hxx hn1
    go_wp2_with fail
    refine (HI.out w1 r1).mono ?_
    rintro e w2 ⟨A2, c2, rfl, o2, b2⟩
    replace r1 := (r1.below b2).more b2.size
    replace hB := below_trans hB (Nat.le_refl _) b2
    clear b2
    have r2 := OwC.rd o2
    go_wp2_with fail
    refine (HS.out w2 r1).mono ?_
    rintro e w3 ⟨A3, c3, rfl, o3, b3⟩
    replace r1 := (r1.below b3).more b3.size
    replace r2 := (r2.below b3).more b3.size
    replace hB := below_trans hB (Nat.le_refl _) b3
    clear b3
    have r3 := OwC.rd o3
    clear HI HS o2 o3
    go_wp2_with fail
    refine (sameCodes_c A2 A3 c2 c3 _ w3 r2 r3 (by omega)).mono ?_
    rintro e w4 ⟨rfl, b4⟩
    replace r1 := (r1.below b4).more b4.size
    replace r2 := (r2.below b4).more b4.size
    replace r3 := (r3.below b4).more b4.size
    replace hB := below_trans hB (Nat.le_refl _) b4
    clear b4
    clear r3
    go_wp2_with fail
    refine (sProgramValid_c A1 c1 l w4 r1 (by omega)).mono ?_
    rintro e w5 ⟨rfl, b5⟩
    replace r1 := (r1.below b5).more b5.size
    replace r2 := (r2.below b5).more b5.size
    replace hB := below_trans hB (Nat.le_refl _) b5
    clear b5
    cases hp : pv l with
    | false =>
      rw [HB.out (.inl hp)]
      go_wp2_with fail
      refine (alive_c _).mono ?_
      rintro e wz ⟨rfl, rfl⟩
      go_wp2
      go_ret
      exact ⟨rfl, hB⟩
    | true =>
      by_cases ht0 : t < 0
      · rw [HB.out (.inr (by omega))]
        go_wp2_with fail
        refine (alive_c _).mono ?_
        rintro e wz ⟨rfl, rfl⟩
        go_wp2
        go_ret
        exact ⟨rfl, hB⟩
      · by_cases ht40 : 40 < t
        · rw [HB.out (.inr (by omega))]
          go_wp2_with fail
          refine (alive_c _).mono ?_
          rintro e wz ⟨rfl, rfl⟩
          go_wp2
          go_ret
          exact ⟨rfl, hB⟩
        · obtain ⟨hpx, h00, hrun⟩ := HL.out hp (by omega)
          have HR := Lib.hid (hrun 3 [3, 1, 4, 1, 5, 9] (by omega) (by decide))
          have HPX := Lib.hid (fun W h => iProgramValid_c A2 c2 x W h (by omega))
          rw [hpx] at HPX
          rw [h00] at H0
          clear hp hpx h00 hrun HL HB
          go_wp2_with fail
          have rM : RdI (w5.alloc (.cells #[.int .i64 3, .int .i64 1, .int .i64 4, .int .i64 1, .int .i64 5, .int .i64 9] 3)) (w5.alloc (.cells #[.int .i64 3, .int .i64 1, .int .i64 4, .int .i64 1, .int .i64 5, .int .i64 9] 3)).heap.size (some ⟨w5.heap.size, 0, none⟩) [3, 1, 4, 1, 5, 9] :=
            (OR.lit w5 w5.heap.size 3 1 6 #[.int .i64 3, .int .i64 1, .int .i64 4, .int .i64 1, .int .i64 5, .int .i64 9] (Nat.le_refl _) (by omega) rfl).reads
          have b6 : Below w5.heap.size w5 (w5.alloc (.cells #[.int .i64 3, .int .i64 1, .int .i64 4, .int .i64 1, .int .i64 5, .int .i64 9] 3)) := (by repeat (first | exact Below.refl _ _ | assumption | refine Below.alloc ?_ (by simp <;> omega) _ | refine Below.setCell ?_ (by simp <;> omega) _ | refine Below.drew ?_))
          replace r1 := (r1.below b6).more b6.size
          replace r2 := (r2.below b6).more b6.size
          replace hB := below_trans hB (Nat.le_refl _) b6
          clear b6
          refine (iRunLock_c A1 _ c1 6 l (3 : Nat) [3, 1, 4, 1, 5, 9] _ r1 rM (by omega) (by decide)).mono ?_
          rintro e w7 ⟨M1, d1, rfl, rm1, b7⟩
          replace r1 := (r1.below b7).more b7.size
          replace r2 := (r2.below b7).more b7.size
          replace rM := (rM.below b7).more b7.size
          replace hB := below_trans hB (Nat.le_refl _) b7
          clear b7
          clear rM
          go_wp2_with fail
          have rM : RdI (w7.alloc (.cells #[.int .i64 3, .int .i64 1, .int .i64 4, .int .i64 1, .int .i64 5, .int .i64 9] 3)) (w7.alloc (.cells #[.int .i64 3, .int .i64 1, .int .i64 4, .int .i64 1, .int .i64 5, .int .i64 9] 3)).heap.size (some ⟨w7.heap.size, 0, none⟩) [3, 1, 4, 1, 5, 9] :=
            (OR.lit w7 w7.heap.size 3 1 6 #[.int .i64 3, .int .i64 1, .int .i64 4, .int .i64 1, .int .i64 5, .int .i64 9] (Nat.le_refl _) (by omega) rfl).reads
          have b8 : Below w7.heap.size w7 (w7.alloc (.cells #[.int .i64 3, .int .i64 1, .int .i64 4, .int .i64 1, .int .i64 5, .int .i64 9] 3)) := (by repeat (first | exact Below.refl _ _ | assumption | refine Below.alloc ?_ (by simp <;> omega) _ | refine Below.setCell ?_ (by simp <;> omega) _ | refine Below.drew ?_))
          replace r1 := (r1.below b8).more b8.size
          replace r2 := (r2.below b8).more b8.size
          replace rm1 := (rm1.below b8).more b8.size
          replace hB := below_trans hB (Nat.le_refl _) b8
          clear b8
          refine (iRunLock_c A2 _ c2 6 x (3 : Nat) [3, 1, 4, 1, 5, 9] _ r2 rM (by omega) (by decide)).mono ?_
          rintro e w9 ⟨M2, d2, rfl, rm2, b9⟩
          replace r1 := (r1.below b9).more b9.size
          replace r2 := (r2.below b9).more b9.size
          replace rm1 := (rm1.below b9).more b9.size
          replace rM := (rM.below b9).more b9.size
          replace hB := below_trans hB (Nat.le_refl _) b9
          clear b9
          clear rM
          rw [HR.out.1, HR.out.2]
          rw [HR.out.1] at rm2
          have hrl := runOf_len l ((3 : Nat) : Int) [3, 1, 4, 1, 5, 9]
          generalize runOf l ((3 : Nat) : Int) [3, 1, 4, 1, 5, 9] = R at *
          generalize wholeOf l ((3 : Nat) : Int) [3, 1, 4, 1, 5, 9] = bw at *
          have hbb : (bw == bw) = true := by simp
          go_wp2_with fail
          refine (sameInts_c M1 M2 d1 d2 R w9 rm1 rm2 (by omega)).mono ?_
          rintro e w10 ⟨rfl, b10⟩
          replace r1 := (r1.below b10).more b10.size
          replace r2 := (r2.below b10).more b10.size
          replace rm1 := (rm1.below b10).more b10.size
          replace rm2 := (rm2.below b10).more b10.size
          replace hB := below_trans hB (Nat.le_refl _) b10
          clear b10
          clear rm1
          clear rm2
          go_wp2_with fail
          refine (HPX.out w10 r2).mono ?_
          rintro e w11 ⟨rfl, b11⟩
          replace r1 := (r1.below b11).more b11.size
          replace r2 := (r2.below b11).more b11.size
          replace hB := below_trans hB (Nat.le_refl _) b11
          clear b11
          go_wp2_with fail
          refine (H0.out w11 r1).mono ?_
          rintro e w12 ⟨A6, c6, rfl, o6, b12⟩
          replace r1 := (r1.below b12).more b12.size
          replace r2 := (r2.below b12).more b12.size
          replace hB := below_trans hB (Nat.le_refl _) b12
          clear b12
          have r6 := OwC.rd o6
          clear o6
          go_wp2_with fail
          refine (sameCodes_c A6 A1 c6 c1 _ w12 r6 r1 (by omega)).mono ?_
          rintro e w13 ⟨rfl, b13⟩
          replace r1 := (r1.below b13).more b13.size
          replace r2 := (r2.below b13).more b13.size
          replace r6 := (r6.below b13).more b13.size
          replace hB := below_trans hB (Nat.le_refl _) b13
          clear b13
          go_wp2
          go_ret
          exact ⟨rfl, hB⟩
end Go.Proofs.Ytcaibhjdahmjeaa
