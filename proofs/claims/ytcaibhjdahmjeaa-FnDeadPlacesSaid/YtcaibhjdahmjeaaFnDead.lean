/- FnDeadPlaces: the walk of the law. -/
import Derived.Test.YtcaibhjdahmjeaaFnDrop
import Derived.Test.YtcaibhjdahmjeaaRegSteps
import Derived.Test.YtcaibhjdahmjeaaReads
namespace Go.Proofs.Ytcaibhjdahmjeaa
open Go.RowKit
set_option linter.unusedVariables false
set_option linter.unusedSimpArgs false
theorem dpL_len (l : List Cd) : (dpL l).length ≤ 40 := by
  cases hp : pv l with
  | false => simp [dpL, hp]
  | true =>
    have h1 := deadN_len l l.length
    have h2 := (pv_iff.1 hp).1
    simp only [dpL, hp, if_true, deadL, List.length_map]
    omega
theorem deadPl_law {l : List Cd} {D : List Int} (hD : dpL l = D) {k : Nat} {a : Int} (h : D[k]? = some a) : ∃ j : Nat, a = (j : Int) ∧ j < l.length ∧ l.length ≤ 40 ∧ 0 ≤ wreg (cdAt l j) ∧
    ∀ (n : Nat) (m : List Int), 1 ≤ n ∧ n ≤ 8 → memOk m = true → runOf (l.take j ++ l.drop (j + 1)) (n : Int) m = runOf l n m ∧ wholeOf (l.take j ++ l.drop (j + 1)) (n : Int) m = wholeOf l n m := by
  subst hD
  cases hp : pv l with
  | false => simp [dpL, hp] at h
  | true =>
    simp only [dpL, hp, if_true, deadL] at h
    obtain ⟨j, hj, rfl⟩ := List.mem_map.1 (List.mem_of_getElem? h)
    obtain ⟨h1, h2⟩ := deadN_mem.1 hj
    obtain ⟨d1, d2, -⟩ := dead_op h2
    have hx : l[j]? = some (cdAt l j) := by unfold cdAt; rw [List.getElem?_eq_getElem h1]
    have hv := pv_all hp _ (List.mem_of_getElem? hx)
    refine ⟨j, rfl, h1, (pv_iff.1 hp).1, ?_, fun n m hn hm => less_run hp hn hm (dead_one hp h2 hn hm)⟩
    have ha := cvOk_a hv
    unfold wreg
    rw [hv, inR_iff.2 ⟨d1, d2⟩]
    exact ha.1
set_option maxRecDepth 100000 in
set_option maxHeartbeats 8000000 in
theorem fnDeadPlaces_c (w : World) (A : Option Addr) (c : Nat) (bs : List Int) (hA : Reads w w.heap.size 1 A bs.length (bs.map (.int .u8))) (hl : bs.length ≤ 9223372036854775807) (hb : ∀ x ∈ bs, 0 ≤ x ∧ x ≤ 255) (hcap : bs.length ≤ c) (Am : Option Addr) (cm : Nat) (ms : List Int) (hAm : Reads w w.heap.size 1 Am ms.length (ms.map (.int .u8))) (hml : ms.length ≤ 9223372036854775807) (hmb : ∀ x ∈ ms, 0 ≤ x ∧ x ≤ 255) (hmcap : ms.length ≤ cm) :
    Calls Try.prog 9 #[.slice A bs.length c, .slice Am ms.length cm] w fun e w' => e = .returned (.bool true) ∧ Below w.heap.size w w' := by
  by_cases hbig0 : 1048576 < bs.length
  · go_enter Try.func9, Try.ntmps9
    go_wp2
    go_ret
    exact ⟨rfl, Below.refl _ _⟩
  by_cases hbig1 : 1048576 < ms.length
  · go_enter Try.func9, Try.ntmps9
    go_wp2
    go_ret
    exact ⟨rfl, Below.refl _ _⟩
  · go_enter Try.func9, Try.ntmps9
    go_wp2_with fail
    refine (drawDeadPlaces_c A c bs w hA hb hl hcap).mono ?_
    rintro e w1 ⟨l, A1, c1, rfl, hl2, o1, hB⟩
    have r1 := OC.rd o1
    have hc1 : l.length ≤ c1 := OR.cap_ o1
    clear o1
    have hDl : (dpL l).length ≤ 40 := dpL_len l
    have HL := Lib.hid (fun k a (h : (dpL l)[k]? = some a) => deadPl_law (l := l) rfl h)
    have HI := Lib.hid (fun W (h : RdC W W.heap.size A1 l) => iDeadPlacesA_c A1 c1 l W h (by omega))
    have HS := Lib.hid (fun W (h : RdC W W.heap.size A1 l) => sDeadPlacesA_c A1 c1 l W h (by omega))
    generalize dpL l = D at *
    go_wp2_with fail
    refine (HI.out w1 r1).mono ?_
    rintro e w2 ⟨A2, c2, rfl, o2, b2⟩
    replace r1 := (r1.below b2).more b2.size
    replace hB := below_trans hB (Nat.le_refl _) b2
    clear b2
    have r2 := OwI.rd o2
    go_wp2_with fail
    refine (HS.out w2 r1).mono ?_
    rintro e w3 ⟨A3, c3, rfl, o3, b3⟩
    replace r1 := (r1.below b3).more b3.size
    replace r2 := (r2.below b3).more b3.size
    replace hB := below_trans hB (Nat.le_refl _) b3
    clear b3
    have r3 := OwI.rd o3
    clear HI HS o2 o3
    go_wp2_with fail
    refine (sameInts_c A2 A3 c2 c3 _ w3 r2 r3 (by omega)).mono ?_
    rintro e w4 ⟨rfl, b4⟩
    replace r1 := (r1.below b4).more b4.size
    replace r2 := (r2.below b4).more b4.size
    replace r3 := (r3.below b4).more b4.size
    replace hB := below_trans hB (Nat.le_refl _) b4
    clear b4
    clear r3
    by_cases h0 : D.length = 0
    · rw [h0]
      go_wp2_with fail
      refine (alive_c _).mono ?_
      rintro e wz ⟨rfl, rfl⟩
      go_wp2
      go_ret
      exact ⟨rfl, hB⟩
    · have h0b : ((D.length : Int) == 0) = false := beq_eq_false_iff_ne.2 (by omega)
      have h0I : ¬ ((D.length : Int) = 0) := by omega
      obtain ⟨k, hk⟩ : ∃ k : Nat, ms.length % D.length = k := ⟨_, rfl⟩
      have hkl : k < D.length := by rw [← hk]; exact Nat.mod_lt _ (by omega)
      obtain ⟨pb, po, a, rfl, -, hga, hca⟩ := r2.at_ hkl
      obtain ⟨j, rfl, hj, hl40, hwr, hrun⟩ := HL.out _ _ hga
      obtain ⟨qb, qo, qx, rfl, -, hqx, -, -, -, -⟩ := r1.at_ hj
      rw [cdAt_get hqx] at hwr
      have hjI : (j : Int) < (l.length : Int) := by omega
      have hk1 : ((ms.length : Int) % (D.length : Int)) = (k : Int) := by rw [← hk]; simp
      have hk2 : ((ms.length : Int).tmod (D.length : Int)) = (k : Int) := by rw [Int.tmod_eq_emod_of_nonneg (by omega)]; exact hk1
      have hkI : (k : Int) < (D.length : Int) := by omega
      have q5 : IntKind.i64.wrap ((j : Int) + 1) = (j : Int) + 1 := IntWalk.i64_in _ (by omega)
      have q6 : (0 : Int) ≤ (j : Int) + 1 := by omega
      have q7 : (j : Int) + 1 ≤ (l.length : Int) := by omega
      have q8 : (j : Int) ≤ (c1 : Int) := by omega
      have q9 : ((j : Int) + 1).toNat = j + 1 := by omega
      have q10 : (l.length : Int) ≤ (c1 : Int) := by omega
      have ho0 := Lib.hid (OR.drew (OC.empty_ w4 w4.heap.size (Nat.le_refl _)))
      have hbE : Below w4.heap.size w4 (w4.alloc (.cells #[] 48)).drew := (by repeat (first | exact Below.refl _ _ | assumption | refine Below.alloc ?_ (by simp <;> omega) _ | refine Below.setCell ?_ (by simp <;> omega) _ | refine Below.drew ?_))
      have hAE := Lib.hid ((r1.below hbE).sub 0 j (by omega))
      have HRUN := Lib.hid hrun
      have HW := Lib.hid hwr
      clear hrun hwr
      by_cases hcj : c1 = j + 1
      · skip
        have hlj : l.length ≤ j + 1 := by omega
        have HLJ := Lib.hid hlj
        clear hlj
        have q11 : (j : Int) ≤ (j : Int) + 1 := by omega
        have q12 : (l.length : Int) ≤ (j : Int) + 1 := by omega
        go_wp2
        go_region_law (first
          | (refine step_cs (by rfl) _ _ (by rfl) w4.heap.size _ _ _ [] (by rfl) ho0.out w4.heap.size _ j _ (l.take j) (by rfl) ?hm ?hc hAE.out ?hn ?hb ?_; (case hm => (simp; omega)); (case hc => (intro e; cases e)); (case hn => omega); (case hb => exact hbE.size); intro A6 c6 w6 ho6 hg6; have hb6 := below_gr hbE hbE.size ho0.out (Nat.le_refl _) hg6; simp only [Nat.zero_add, List.nil_append] at ho6; have hA6 := Lib.hid ((r1.below hb6).sub 0 0 (by omega)))
          | (refine step_cs (by rfl) _ _ (by rfl) w4.heap.size _ _ _ _ (by rfl) ho6 w4.heap.size _ _ _ _ (by rfl) ?hm ?hc hA6.out ?hn ?hb ?_; (case hm => (have hlj := HLJ.out; simp; omega)); (case hc => (intro e; cases e)); (case hn => omega); (case hb => exact hb6.size); intro A7 c7 w7 ho7 hg7; have hb7 := below_gr hb6 hb6.size ho6 (Nat.le_refl _) hg7))
        have hx : l.take j ++ (l.drop 0).take 0 = l.take j ++ l.drop (j + 1) := by
          congr 1
          rw [List.drop_eq_nil_of_le HLJ.out]; simp
        rw [hx] at ho7
        have HRX := HRUN.out
        generalize l.take j ++ l.drop (j + 1) = x at *
        have hxl := OC.len ho7
        rw [← hxl] at ho7 ⊢
        have hxl40 : x.length ≤ 200000 := by omega
        clear hxl
        have rx := OC.rd ho7
        clear ho0 hbE hAE ho6 hg6 hb6 hA6 hg7 ho7 hx HRUN r2
        replace r1 := (r1.below hb7).more hb7.size
        replace hB := below_trans hB (Nat.le_refl _) hb7
        clear hb7
        replace rx := rx.more (Nat.le_refl _)
        obtain ⟨n, hn⟩ : ∃ n : Nat, 1 + ms.length % 5 = n := ⟨_, rfl⟩
        have hn8 : 1 ≤ n ∧ n ≤ 8 := by omega
        have hq : 1 + (ms.length : Int) % 5 = (n : Int) := by omega
        have HR := Lib.hid (HRX n [3, 1, 4, 1, 5, 9] hn8 (by decide))
        have HQ := Lib.hid hq
        clear HRX hn hq
        go_wp2_with fail
        have rM1 : RdI (w7.alloc (.cells #[.int .i64 3, .int .i64 1, .int .i64 4, .int .i64 1, .int .i64 5, .int .i64 9] 3)) (w7.alloc (.cells #[.int .i64 3, .int .i64 1, .int .i64 4, .int .i64 1, .int .i64 5, .int .i64 9] 3)).heap.size (some ⟨w7.heap.size, 0, none⟩) [3, 1, 4, 1, 5, 9] :=
          (OR.lit w7 w7.heap.size 3 1 6 #[.int .i64 3, .int .i64 1, .int .i64 4, .int .i64 1, .int .i64 5, .int .i64 9] (Nat.le_refl _) (by omega) rfl).reads
        have b6 : Below w7.heap.size w7 (w7.alloc (.cells #[.int .i64 3, .int .i64 1, .int .i64 4, .int .i64 1, .int .i64 5, .int .i64 9] 3)) := (by repeat (first | exact Below.refl _ _ | assumption | refine Below.alloc ?_ (by simp <;> omega) _ | refine Below.setCell ?_ (by simp <;> omega) _ | refine Below.drew ?_))
        replace r1 := (r1.below b6).more b6.size
        replace rx := (rx.below b6).more b6.size
        replace hB := below_trans hB (Nat.le_refl _) b6
        clear b6
        rw [HQ.out]
        refine (iRunLock_c _ _ _ 6 l n [3, 1, 4, 1, 5, 9] _ r1 rM1 (by omega) (by decide)).mono ?_
        rintro e w7 ⟨M1, d1, rfl, rm1, b7⟩
        replace r1 := (r1.below b7).more b7.size
        replace rx := (rx.below b7).more b7.size
        replace rM1 := (rM1.below b7).more b7.size
        replace hB := below_trans hB (Nat.le_refl _) b7
        clear b7
        clear rM1
        go_wp2_with fail
        have rM2 : RdI (w7.alloc (.cells #[.int .i64 3, .int .i64 1, .int .i64 4, .int .i64 1, .int .i64 5, .int .i64 9] 3)) (w7.alloc (.cells #[.int .i64 3, .int .i64 1, .int .i64 4, .int .i64 1, .int .i64 5, .int .i64 9] 3)).heap.size (some ⟨w7.heap.size, 0, none⟩) [3, 1, 4, 1, 5, 9] :=
          (OR.lit w7 w7.heap.size 3 1 6 #[.int .i64 3, .int .i64 1, .int .i64 4, .int .i64 1, .int .i64 5, .int .i64 9] (Nat.le_refl _) (by omega) rfl).reads
        have b8 : Below w7.heap.size w7 (w7.alloc (.cells #[.int .i64 3, .int .i64 1, .int .i64 4, .int .i64 1, .int .i64 5, .int .i64 9] 3)) := (by repeat (first | exact Below.refl _ _ | assumption | refine Below.alloc ?_ (by simp <;> omega) _ | refine Below.setCell ?_ (by simp <;> omega) _ | refine Below.drew ?_))
        replace r1 := (r1.below b8).more b8.size
        replace rx := (rx.below b8).more b8.size
        replace rm1 := (rm1.below b8).more b8.size
        replace hB := below_trans hB (Nat.le_refl _) b8
        clear b8
        rw [HQ.out]
        refine (iRunLock_c A7 _ c7 6 x n [3, 1, 4, 1, 5, 9] _ rx rM2 (by omega) (by decide)).mono ?_
        rintro e w9 ⟨M2, d2, rfl, rm2, b9⟩
        replace r1 := (r1.below b9).more b9.size
        replace rx := (rx.below b9).more b9.size
        replace rm1 := (rm1.below b9).more b9.size
        replace rM2 := (rM2.below b9).more b9.size
        replace hB := below_trans hB (Nat.le_refl _) b9
        clear b9
        clear rM2
        rw [HR.out.1, HR.out.2]
        rw [HR.out.1] at rm2
        have hrl := runOf_len l (n : Int) [3, 1, 4, 1, 5, 9]
        generalize runOf l (n : Int) [3, 1, 4, 1, 5, 9] = R at *
        generalize wholeOf l (n : Int) [3, 1, 4, 1, 5, 9] = bw at *
        have hbb : (bw == bw) = true := by simp
        go_wp2_with fail
        refine (sameInts_c M1 M2 d1 d2 R w9 rm1 rm2 (by omega)).mono ?_
        rintro e w10 ⟨rfl, b10⟩
        replace r1 := (r1.below b10).more b10.size
        replace rx := (rx.below b10).more b10.size
        replace rm1 := (rm1.below b10).more b10.size
        replace rm2 := (rm2.below b10).more b10.size
        replace hB := below_trans hB (Nat.le_refl _) b10
        clear b10
        clear rm1
        clear rm2
        obtain ⟨qb', qo', qx', e, -, hqx', y0, y1, y2, y3⟩ := r1.at_ hj
        injection e with e
        injection e with e1 e2
        subst e1 e2
        rw [hqx'] at hqx
        injection hqx with hqx
        subst hqx
        obtain ⟨xo, xa, xb, xc⟩ := qx'
        have HWR := Lib.hid HW.out
        clear hqx' HW
        go_wp2_with fail
        refine (iCodeWrites_c ⟨xo, xa, xb, xc⟩ w10).mono ?_
        rintro e w11 ⟨rfl, b11⟩
        replace r1 := (r1.below b11).more b11.size
        replace rx := (rx.below b11).more b11.size
        replace hB := below_trans hB (Nat.le_refl _) b11
        clear b11
        have hw0 := HWR.out
        generalize wreg ⟨xo, xa, xb, xc⟩ = wv at *
        have hw1 : decide (wv ≥ 0) = true := decide_eq_true hw0
        go_wp2
        go_ret
        exact ⟨rfl, hB⟩
      · skip
        go_wp2
        go_region_law (first
          | (refine step_cs (by rfl) _ _ (by rfl) w4.heap.size _ _ _ [] (by rfl) ho0.out w4.heap.size _ j _ (l.take j) (by rfl) ?hm ?hc hAE.out ?hn ?hb ?_; (case hm => (simp; omega)); (case hc => (intro e; cases e)); (case hn => omega); (case hb => exact hbE.size); intro A6 c6 w6 ho6 hg6; have hb6 := below_gr hbE hbE.size ho0.out (Nat.le_refl _) hg6; simp only [Nat.zero_add, List.nil_append] at ho6; have hA6 := Lib.hid ((r1.below hb6).sub (j + 1) (l.length - (j + 1)) (by omega)))
          | (refine step_cs (by rfl) _ _ (by rfl) w4.heap.size _ _ _ _ (by rfl) ho6 w4.heap.size _ _ _ _ (by rfl) ?hm ?hc hA6.out ?hn ?hb ?_; (case hm => (first | (simp; done) | (simp; omega))); (case hc => (intro e; cases e)); (case hn => omega); (case hb => exact hb6.size); intro A7 c7 w7 ho7 hg7; have hb7 := below_gr hb6 hb6.size ho6 (Nat.le_refl _) hg7))
        have hx : l.take j ++ (l.drop (j + 1)).take (l.length - (j + 1)) = l.take j ++ l.drop (j + 1) := by
          congr 1
          exact List.take_of_length_le (by simp)
        rw [hx] at ho7
        have HRX := HRUN.out
        generalize l.take j ++ l.drop (j + 1) = x at *
        have hxl := OC.len ho7
        rw [← hxl] at ho7 ⊢
        have hxl40 : x.length ≤ 200000 := by omega
        clear hxl
        have rx := OC.rd ho7
        clear ho0 hbE hAE ho6 hg6 hb6 hA6 hg7 ho7 hx HRUN r2
        replace r1 := (r1.below hb7).more hb7.size
        replace hB := below_trans hB (Nat.le_refl _) hb7
        clear hb7
        replace rx := rx.more (Nat.le_refl _)
        obtain ⟨n, hn⟩ : ∃ n : Nat, 1 + ms.length % 5 = n := ⟨_, rfl⟩
        have hn8 : 1 ≤ n ∧ n ≤ 8 := by omega
        have hq : 1 + (ms.length : Int) % 5 = (n : Int) := by omega
        have HR := Lib.hid (HRX n [3, 1, 4, 1, 5, 9] hn8 (by decide))
        have HQ := Lib.hid hq
        clear HRX hn hq
        go_wp2_with fail
        have rM1 : RdI (w7.alloc (.cells #[.int .i64 3, .int .i64 1, .int .i64 4, .int .i64 1, .int .i64 5, .int .i64 9] 3)) (w7.alloc (.cells #[.int .i64 3, .int .i64 1, .int .i64 4, .int .i64 1, .int .i64 5, .int .i64 9] 3)).heap.size (some ⟨w7.heap.size, 0, none⟩) [3, 1, 4, 1, 5, 9] :=
          (OR.lit w7 w7.heap.size 3 1 6 #[.int .i64 3, .int .i64 1, .int .i64 4, .int .i64 1, .int .i64 5, .int .i64 9] (Nat.le_refl _) (by omega) rfl).reads
        have b13 : Below w7.heap.size w7 (w7.alloc (.cells #[.int .i64 3, .int .i64 1, .int .i64 4, .int .i64 1, .int .i64 5, .int .i64 9] 3)) := (by repeat (first | exact Below.refl _ _ | assumption | refine Below.alloc ?_ (by simp <;> omega) _ | refine Below.setCell ?_ (by simp <;> omega) _ | refine Below.drew ?_))
        replace r1 := (r1.below b13).more b13.size
        replace rx := (rx.below b13).more b13.size
        replace hB := below_trans hB (Nat.le_refl _) b13
        clear b13
        rw [HQ.out]
        refine (iRunLock_c _ _ _ 6 l n [3, 1, 4, 1, 5, 9] _ r1 rM1 (by omega) (by decide)).mono ?_
        rintro e w14 ⟨M1, d1, rfl, rm1, b14⟩
        replace r1 := (r1.below b14).more b14.size
        replace rx := (rx.below b14).more b14.size
        replace rM1 := (rM1.below b14).more b14.size
        replace hB := below_trans hB (Nat.le_refl _) b14
        clear b14
        clear rM1
        go_wp2_with fail
        have rM2 : RdI (w14.alloc (.cells #[.int .i64 3, .int .i64 1, .int .i64 4, .int .i64 1, .int .i64 5, .int .i64 9] 3)) (w14.alloc (.cells #[.int .i64 3, .int .i64 1, .int .i64 4, .int .i64 1, .int .i64 5, .int .i64 9] 3)).heap.size (some ⟨w14.heap.size, 0, none⟩) [3, 1, 4, 1, 5, 9] :=
          (OR.lit w14 w14.heap.size 3 1 6 #[.int .i64 3, .int .i64 1, .int .i64 4, .int .i64 1, .int .i64 5, .int .i64 9] (Nat.le_refl _) (by omega) rfl).reads
        have b15 : Below w14.heap.size w14 (w14.alloc (.cells #[.int .i64 3, .int .i64 1, .int .i64 4, .int .i64 1, .int .i64 5, .int .i64 9] 3)) := (by repeat (first | exact Below.refl _ _ | assumption | refine Below.alloc ?_ (by simp <;> omega) _ | refine Below.setCell ?_ (by simp <;> omega) _ | refine Below.drew ?_))
        replace r1 := (r1.below b15).more b15.size
        replace rx := (rx.below b15).more b15.size
        replace rm1 := (rm1.below b15).more b15.size
        replace hB := below_trans hB (Nat.le_refl _) b15
        clear b15
        rw [HQ.out]
        refine (iRunLock_c A7 _ c7 6 x n [3, 1, 4, 1, 5, 9] _ rx rM2 (by omega) (by decide)).mono ?_
        rintro e w16 ⟨M2, d2, rfl, rm2, b16⟩
        replace r1 := (r1.below b16).more b16.size
        replace rx := (rx.below b16).more b16.size
        replace rm1 := (rm1.below b16).more b16.size
        replace rM2 := (rM2.below b16).more b16.size
        replace hB := below_trans hB (Nat.le_refl _) b16
        clear b16
        clear rM2
        rw [HR.out.1, HR.out.2]
        rw [HR.out.1] at rm2
        have hrl := runOf_len l (n : Int) [3, 1, 4, 1, 5, 9]
        generalize runOf l (n : Int) [3, 1, 4, 1, 5, 9] = R at *
        generalize wholeOf l (n : Int) [3, 1, 4, 1, 5, 9] = bw at *
        have hbb : (bw == bw) = true := by simp
        go_wp2_with fail
        refine (sameInts_c M1 M2 d1 d2 R w16 rm1 rm2 (by omega)).mono ?_
        rintro e w17 ⟨rfl, b17⟩
        replace r1 := (r1.below b17).more b17.size
        replace rx := (rx.below b17).more b17.size
        replace rm1 := (rm1.below b17).more b17.size
        replace rm2 := (rm2.below b17).more b17.size
        replace hB := below_trans hB (Nat.le_refl _) b17
        clear b17
        clear rm1
        clear rm2
        obtain ⟨qb', qo', qx', e, -, hqx', y0, y1, y2, y3⟩ := r1.at_ hj
        injection e with e
        injection e with e1 e2
        subst e1 e2
        rw [hqx'] at hqx
        injection hqx with hqx
        subst hqx
        obtain ⟨xo, xa, xb, xc⟩ := qx'
        have HWR := Lib.hid HW.out
        clear hqx' HW
        go_wp2_with fail
        refine (iCodeWrites_c ⟨xo, xa, xb, xc⟩ w17).mono ?_
        rintro e w18 ⟨rfl, b18⟩
        replace r1 := (r1.below b18).more b18.size
        replace rx := (rx.below b18).more b18.size
        replace hB := below_trans hB (Nat.le_refl _) b18
        clear b18
        have hw0 := HWR.out
        generalize wreg ⟨xo, xa, xb, xc⟩ = wv at *
        have hw1 : decide (wv ≥ 0) = true := decide_eq_true hw0
        go_wp2
        go_ret
        exact ⟨rfl, hB⟩
end Go.Proofs.Ytcaibhjdahmjeaa
