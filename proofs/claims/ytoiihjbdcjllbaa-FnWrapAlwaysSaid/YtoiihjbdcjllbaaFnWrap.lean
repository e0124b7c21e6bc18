/- FnWrapAlways: RunLock of the reference, the wrapping, the walk of the law. -/
import Derived.Test.YtoiihjbdcjllbaaRunD2
import Derived.Test.YtoiihjbdcjllbaaIRun
import Derived.Test.YtoiihjbdcjllbaaLock6
import Derived.Test.YtoiihjbdcjllbaaSame
import Derived.Test.YtoiihjbdcjllbaaReads
import Derived.Test.YtoiihjbdcjllbaaWrapLaw
namespace Go.Proofs.Ytoiihjbdcjllbaa
open Go.RowKit
set_option linter.unusedVariables false
set_option linter.unusedSimpArgs false

set_option maxRecDepth 100000 in
set_option maxHeartbeats 4000000 in
theorem sRunLock_c (A Am : Option Addr) (ca cm : Nat) (l : List Cd) (n : Int) (mem : List Int) (w : World) (hA : RdC w w.heap.size A l) (hM : RdI w w.heap.size Am mem) (hl : l.length ≤ 1000000000) (hml : mem.length ≤ 1000000000) :
    Calls Try.prog 18 #[.slice A l.length ca, .int .i64 n, .slice Am mem.length cm] w fun e w' => ∃ (M : Option Addr) (c : Nat), e = .returned (.tuple #[.slice M (runOf l n mem).length c, .bool (wholeOf l n mem)]) ∧ RdI w' w'.heap.size M (runOf l n mem) ∧ Below w.heap.size w w' := by
  cases hok : lockOk l n mem with
  | false =>
    have hr1 : runOf l n mem = [] := by simp [runOf, hok]
    have hw1 : wholeOf l n mem = false := by simp [wholeOf, hok]
    have HR1 := Lib.hid hr1
    have HW := Lib.hid hw1
    clear hr1 hw1
    go_enter Try.func18, Try.ntmps18
    go_wp2_with fail
    refine (sl8Ok_c A Am ca cm l n mem w hA hM hl hml).mono ?_
    rintro e w1 ⟨rfl, hb1⟩
    rw [hok]
    go_wp2
    go_ret2
    rw [HR1.out, HW.out]
    exact ⟨_, _, rfl, (OI.empty_ w1 w.heap.size hb1.size).reads, hb1.alloc hb1.size _⟩
  | true =>
    have h' := hok
    simp only [lockOk, Bool.and_eq_true] at h'
    obtain ⟨hp, hin, hmem⟩ := h'
    obtain ⟨k, rfl⟩ : ∃ k : Nat, n = (k : Int) := ⟨n.toNat, by have := (inR_iff.1 hin).1; omega⟩
    have hk1 : 1 ≤ k := by have := (inR_iff.1 hin).1; omega
    have hk8 : k ≤ 8 := by have := (inR_iff.1 hin).2; omega
    have HR1 := Lib.hid (show runOf l k mem = (runT (treeOf l) k mem).mem by simp [runOf, hok, lockS])
    have HW := Lib.hid (show wholeOf l k mem = !splitB l k (runT (treeOf l) k mem).beats by simp [wholeOf, hok, lockS])
    obtain ⟨hm0, hm1, hm2⟩ := memOk_iff.1 hmem
    obtain ⟨ht1, ht2⟩ := treeOf_spec hp
    have h40 := (pv_iff.1 hp).1
    have HT1 := Lib.hid ht1
    have HT2 := Lib.hid ht2
    clear ht1 ht2
    go_enter Try.func18, Try.ntmps18
    go_wp2_with fail
    refine (sl8Ok_c A Am ca cm l k mem w hA hM hl hml).mono ?_
    rintro e w1 ⟨rfl, hb1⟩
    rw [hok]
    have HH := Lib.hid (And.intro hok (And.intro hp (And.intro hin hmem)))
    clear hok hp hin hmem
    go_wp2_with fail
    refine (l8All_c A Am ca cm l k mem (treeOf l) w1 ((hA.below hb1).more hb1.size) ((hM.below hb1).more hb1.size) HT1.out HT2.out.symm (pv_all HH.out.2.1) h40 hk1 hk8 hm0 hm1 hm2).mono ?_
    rintro e w2 ⟨z, T, tc, rfl, hzB, hzl, hzn, hS, hb2⟩
    obtain ⟨-, -, -, c3, -, c5, -⟩ := hS.cells
    have HM := Lib.hid (OR.reads hS.mem)
    have hb3 := below_trans hb1 (Nat.le_refl _) hb2
    generalize splitB l k (runT (treeOf l) k mem).beats = sb at *
    generalize (runT (treeOf l) k mem) = S at *
    clear hS
    go_wp2_with fail
    go_quiet (fail)
    go_wp2
    go_ret2
    rw [HR1.out, HW.out]
    exact ⟨_, _, rfl, HM.out.below ⟨rfl, rfl, rfl, Nat.le_refl _, fun _ _ => rfl⟩, hb3.trans ⟨rfl, rfl, rfl, Nat.le_refl _, fun _ _ => rfl⟩⟩

theorem OC.one (w : World) (y : Cd) : OC (w.alloc (.cells #[.int .i64 y.op, .int .i64 y.a, .int .i64 y.b, .int .i64 y.c] 32)) w.heap.size (some ⟨w.heap.size, 0, none⟩) 1 1 [y] := by
  have h := OR.lit w w.heap.size 32 4 1 #[.int .i64 y.op, .int .i64 y.a, .int .i64 y.b, .int .i64 y.c] (Nat.le_refl _) (by omega) rfl
  have e : cdsCells [y] = [.int .i64 y.op, .int .i64 y.a, .int .i64 y.b, .int .i64 y.c] := by simp [cdsCells, cdCells]
  unfold OC
  rw [e]
  exact h

set_option maxRecDepth 100000 in
set_option maxHeartbeats 4000000 in
theorem wrapped_c (A : Option Addr) (c : Nat) (l : List Cd) (a : Int) (w : World) (hA : RdC w w.heap.size A l) (hc : A = none → c = 0) (hl : l.length ≤ 1000000) :
    Calls Try.prog 20 #[(cIf a).val, .slice A l.length c] w fun e w' => ∃ (A' : Option Addr) (c' : Nat), e = .returned (.tuple #[.slice A' (l.length + 2) c', .bool (pv (cIf a :: (l ++ [cEnd])))]) ∧ OC w' w.heap.size A' (l.length + 2) c' (cIf a :: (l ++ [cEnd])) ∧ Below w.heap.size w w' := by
  have HV := Lib.hid (fun W A' c' h => sProgramValid_c A' c' (cIf a :: (l ++ [cEnd])) W h (by simp; omega))
  have hlen : (cIf a :: (l ++ [cEnd])).length = l.length + 2 := by simp
  rw [hlen] at HV
  generalize hpv : pv (cIf a :: (l ++ [cEnd])) = pb at *
  clear hpv
  have hF := Below.alloc (Below.refl w.heap.size w) (Nat.le_refl _) (.cells #[.int .i64 11, .int .i64 a, .int .i64 0, .int .i64 0] 32)
  obtain ⟨wF, hwF⟩ : ∃ z, z = w.alloc (.cells #[.int .i64 11, .int .i64 a, .int .i64 0, .int .i64 0] 32) := ⟨_, rfl⟩
  rw [← hwF] at hF
  have hn := heap_alloc_new w (.cells #[.int .i64 11, .int .i64 a, .int .i64 0, .int .i64 0] 32)
  rw [← hwF] at hn
  have f0 := cell_of_heap hn 0
  have f1 := cell_of_heap hn 1
  have f2 := cell_of_heap hn 2
  have f3 := cell_of_heap hn 3
  have ho0 := Lib.hid (OR.mono (base' := w.heap.size) (show OC (wF.alloc (.cells #[.int .i64 11, .int .i64 a, .int .i64 0, .int .i64 0] 32)) wF.heap.size (some ⟨wF.heap.size, 0, none⟩) 1 1 [cIf a] from OC.one wF (cIf a)) hF.size)
  have hbE : Below w.heap.size w (wF.alloc (.cells #[.int .i64 11, .int .i64 a, .int .i64 0, .int .i64 0] 32)) := hF.alloc hF.size _
  have hAE := Lib.hid (hA.below hbE)
  unfold Cd.val
  go_enter Try.func20, Try.ntmps20
  dsimp only [cIf]
  go_upto_region 1 with (fail)
  rw [← hwF]
  clear hwF hn
  go_wp2_with (at_builtin; refine app_cs rfl _ _ rfl w.heap.size _ _ _ _ ho0.out rfl w.heap.size A l.length c l rfl rfl hc hAE.out ?hn ?hb ?_)
  case hn => omega
  case hb => exact hbE.size
  intro A6 c6 w6 ho6 hg6
  have hb6 := below_gr hbE hbE.size ho0.out (Nat.le_refl _) hg6
  clear ho0 hbE hAE hg6
  go_wp2_with (at_builtin; refine app_code rfl _ _ rfl w.heap.size _ _ _ _ (ho6.alloc _) rfl cEnd w6.heap.size 1 rfl ?h0 ?h1 ?h2 ?h3 ?hn ?hb ?_)
  case h0 => simp [go_sem, cEnd]
  case h1 => simp [go_sem, cEnd]
  case h2 => simp [go_sem, cEnd]
  case h3 => simp [go_sem, cEnd]
  case hn => omega
  case hb => have := hb6.size; simp; omega
  intro A7 c7 w7 ho7 hg7
  have hb7 := below_app hb6 hb6.size ho6 (Nat.le_refl _) hg7
  clear hg7 hb6 ho6
  rw [show 1 + l.length + 1 = l.length + 2 by omega] at ho7 ⊢
  have ho8 : OC w7 w.heap.size A7 (l.length + 2) c7 (cIf a :: (l ++ [cEnd])) := by simpa using ho7
  have hrd : RdC w7 w7.heap.size A7 (cIf a :: (l ++ [cEnd])) := OC.rd (by rw [hlen]; exact ho8)
  go_wp2_with fail
  refine (HV.out w7 A7 c7 hrd).mono ?_
  rintro e w8 ⟨rfl, hb8⟩
  have ho9 := Lib.hid (OR.below ho8 hb8 (by have := hb7.size; omega))
  have hb9 := below_trans hb7 (by have := hb7.size; omega) hb8
  go_wp2
  go_ret2
  exact ⟨_, _, rfl, ho9.out, hb9⟩

theorem wrap_all {l : List Cd} {n : Int} {m : List Int} (hok : lockOk l n m = true) (hw : pv (cIf 3 :: (l ++ [cEnd])) = true) (h40 : l.length + 3 ≤ 40) (hu : (usedOf l).testBit 3 = false) : runOf (wrapL l) n m = runOf l n m ∧ wholeOf (wrapL l) n m = wholeOf l n m := by
  have h' := hok
  simp only [lockOk, Bool.and_eq_true] at h'
  obtain ⟨hp, hin, hmem⟩ := h'
  obtain ⟨k, rfl⟩ : ∃ k : Nat, n = (k : Int) := ⟨n.toNat, by have := (inR_iff.1 hin).1; omega⟩
  have hy := wrap_pv hw (by simp [wrapL]; omega)
  have K := wrap_less hp hy hu (n := k) (by have := inR_iff.1 hin; omega) hmem
  refine ⟨?_, ?_⟩
  · simp only [runOf, lockOk, hp, hy, hin, hmem, Int.toNat_natCast, K.mem]
  · simp only [wholeOf, lockOk, hp, hy, hin, hmem, Int.toNat_natCast, K.spl]

set_option maxRecDepth 100000 in
set_option maxHeartbeats 8000000 in
theorem fnWrapAlways_c (w : World) (A : Option Addr) (c : Nat) (bs : List Int) (hA : Reads w w.heap.size 1 A bs.length (bs.map (.int .u8))) (hl : bs.length ≤ 9223372036854775807) (hb : ∀ x ∈ bs, 0 ≤ x ∧ x ≤ 255) (hcap : bs.length ≤ c) :
    Calls Try.prog 4 #[.slice A bs.length c] w fun e w' => e = .returned (.bool true) ∧ Below w.heap.size w w' := by
  by_cases hbig0 : 1048576 < bs.length
  · go_enter Try.func4, Try.ntmps4
    go_wp2
    go_ret
    exact ⟨rfl, Below.refl _ _⟩
  · go_enter Try.func4, Try.ntmps4
    go_wp2_with fail
    refine (drawRunLock2_c A c bs w hA hb hl hcap).mono ?_
    rintro e w1 ⟨l, A1, c1, n, m, Am, cm, rfl, hl2, hm40, hn9, hcn, hcl, r1, rM, hB⟩
    have hrl := runOf_len l n m
    have HWA := Lib.hid (fun h1 h2 h3 h4 => wrap_all (l := l) (n := n) (m := m) h1 h2 h3 h4)
    go_wp2_with fail
    refine (iRunLock_c A1 Am c1 cm l n m w1 r1 rM (by omega) (by omega)).mono ?_
    rintro e w2 ⟨M1, d1, rfl, rm1, b2⟩
    replace r1 := (r1.below b2).more b2.size
    replace rM := (rM.below b2).more b2.size
    replace hB := below_trans hB (Nat.le_refl _) b2
    clear b2
    go_wp2_with fail
    refine (sRunLock_c A1 Am c1 cm l n m w2 r1 rM (by omega) (by omega)).mono ?_
    rintro e w3 ⟨M2, d2, rfl, rm2, b3⟩
    replace r1 := (r1.below b3).more b3.size
    replace rM := (rM.below b3).more b3.size
    replace rm1 := (rm1.below b3).more b3.size
    replace hB := below_trans hB (Nat.le_refl _) b3
    clear b3
    generalize hRe : runOf l n m = R at *
    generalize hWe : wholeOf l n m = bw at *
    have hbb : (bw == bw) = true := by simp
    go_wp2_with fail
    refine (sameInts_c M1 M2 d1 d2 R w3 rm1 rm2 (by omega)).mono ?_
    rintro e w4 ⟨rfl, b4⟩
    replace r1 := (r1.below b4).more b4.size
    replace rM := (rM.below b4).more b4.size
    replace rm1 := (rm1.below b4).more b4.size
    replace rm2 := (rm2.below b4).more b4.size
    replace hB := below_trans hB (Nat.le_refl _) b4
    clear b4
    clear rm2
    go_wp2_with fail
    have HVW := Lib.hid (rfl : pv (cIf 3 :: (l ++ [cEnd])) = pv (cIf 3 :: (l ++ [cEnd])))
    refine (wrapped_c A1 c1 l 3 w4 r1 hcn (by omega)).mono ?_
    rintro e w5 ⟨A4, c4, rfl, o4, b5⟩
    replace r1 := (r1.below b5).more b5.size
    replace rM := (rM.below b5).more b5.size
    replace rm1 := (rm1.below b5).more b5.size
    replace hB := below_trans hB (Nat.le_refl _) b5
    clear b5
    generalize hpw : pv (cIf 3 :: (l ++ [cEnd])) = pw at *
    clear HVW
    have ho0 := Lib.hid (show OC (w5.alloc (.cells #[.int .i64 1, .int .i64 3, .int .i64 1, .int .i64 0] 32)) w5.heap.size (some ⟨w5.heap.size, 0, none⟩) 1 1 [cSet3] from OC.one w5 cSet3)
    have hbE : Below w5.heap.size w5 (w5.alloc (.cells #[.int .i64 1, .int .i64 3, .int .i64 1, .int .i64 0] 32)) := (by repeat (first | exact Below.refl _ _ | assumption | refine Below.alloc ?_ (by simp <;> omega) _ | refine Below.setCell ?_ (by simp <;> omega) _ | refine Below.drew ?_))
    have hlx : (cIf 3 :: (l ++ [cEnd])).length = l.length + 2 := by simp
    have hn4 := fun e => OC.nilc o4 e
    have hrd4 : RdC w5 w5.heap.size A4 (cIf 3 :: (l ++ [cEnd])) := OC.rd (by rw [hlx]; exact o4)
    have hAE := Lib.hid (hrd4.below hbE)
    clear o4 hrd4
    go_wp2_with (at_builtin; refine app_cs rfl _ _ rfl w5.heap.size _ _ _ _ ho0.out rfl w5.heap.size A4 (l.length + 2) c4 (cIf 3 :: (l ++ [cEnd])) rfl hlx hn4 hAE.out ?hn ?hb ?_)
    case hn => omega
    case hb => exact hbE.size
    intro A6 c6 w16 ho6 hg6
    have b16 := below_gr hbE hbE.size ho0.out (Nat.le_refl _) hg6
    clear ho0 hbE hAE hg6
    replace ho6 : OC w16 w5.heap.size A6 (1 + (l.length + 2)) c6 (wrapL l) := ho6
    rw [show 1 + (l.length + 2) = l.length + 3 by omega] at ho6 ⊢
    have hly : (wrapL l).length = l.length + 3 := by simp [wrapL]
    have ry := OC.rd (show OC w16 w5.heap.size A6 (wrapL l).length c6 (wrapL l) by rw [hly]; exact ho6)
    clear ho6
    replace r1 := (r1.below b16).more b16.size
    replace rM := (rM.below b16).more b16.size
    replace rm1 := (rm1.below b16).more b16.size
    replace hB := below_trans hB (Nat.le_refl _) b16
    clear b16
    cases pw with
    | false =>
      go_wp2_with fail
      refine (alive_c _).mono ?_
      rintro e wz ⟨rfl, rfl⟩
      go_wp2
      go_ret
      exact ⟨rfl, hB⟩
    | true =>
      go_wp2_with fail
      refine (runs_c A1 Am c1 cm l n m w16 r1 rM (by omega) (by omega)).mono ?_
      rintro e w17 ⟨rfl, b17⟩
      replace r1 := (r1.below b17).more b17.size
      replace rM := (rM.below b17).more b17.size
      replace rm1 := (rm1.below b17).more b17.size
      replace ry := (ry.below b17).more b17.size
      replace hB := below_trans hB (Nat.le_refl _) b17
      clear b17
      cases hok : lockOk l n m with
      | false =>
        go_wp2_with fail
        refine (alive_c _).mono ?_
        rintro e wz ⟨rfl, rfl⟩
        go_wp2
        go_ret
        exact ⟨rfl, hB⟩
      | true =>
        by_cases h37 : l.length + 3 ≤ 40
        · have h37I : (l.length : Int) + 3 ≤ 40 := by omega
          have HU := Lib.hid (show regsUsedI l = (usedOf l : Int) by
            have h' := hok
            simp only [lockOk, Bool.and_eq_true] at h'
            simp [regsUsedI, h'.1])
          have HOK := Lib.hid hok
          have HPW := Lib.hid hpw
          clear hok hpw
          go_wp2_with fail
          refine (iRegsUsed_c A1 c1 l w17 r1 (by omega)).mono ?_
          rintro e w18 ⟨rfl, b18⟩
          replace r1 := (r1.below b18).more b18.size
          replace rM := (rM.below b18).more b18.size
          replace rm1 := (rm1.below b18).more b18.size
          replace ry := (ry.below b18).more b18.size
          replace hB := below_trans hB (Nat.le_refl _) b18
          clear b18
          rw [HU.out]
          have hu16 := usedOf_lt l
          generalize hue : usedOf l = u at *
          have hut : u.testBit 3 = ((u / 8) % 2 == 1) := by rw [Nat.testBit_eq_decide_div_mod_eq]; rfl
          by_cases hub : (u / 8) % 2 = 1
          · have hbt : (((u : Int) / 8) % 2 == 1) = true := by rw [beq_iff_eq]; omega
            go_wp2_with fail
            refine (alive_c _).mono ?_
            rintro e wz ⟨rfl, rfl⟩
            go_wp2
            go_ret
            exact ⟨rfl, hB⟩
          · have hbt : (((u : Int) / 8) % 2 == 1) = false := beq_eq_false_iff_ne.2 (by omega)
            obtain ⟨e1, e2⟩ := HWA.out HOK.out (by first | exact trivial | simp) h37 (by rw [hut]; exact beq_eq_false_iff_ne.2 hub)
            try rw [hRe] at e1
            try rw [hWe] at e2
            have HI := Lib.hid (fun W a b => iRunLock_c A6 Am c6 cm (wrapL l) n m W a b (by omega) (by omega))
            rw [e1, e2, hly] at HI
            clear e1 e2 HWA hue hut hub
            go_wp2_with fail
            refine (HI.out w18 ry rM).mono ?_
            rintro e w19 ⟨M9, d9, rfl, rm9, b19⟩
            replace r1 := (r1.below b19).more b19.size
            replace rM := (rM.below b19).more b19.size
            replace rm1 := (rm1.below b19).more b19.size
            replace ry := (ry.below b19).more b19.size
            replace hB := below_trans hB (Nat.le_refl _) b19
            clear b19
            go_wp2_with fail
            refine (sameInts_c M9 M1 d9 d1 R w19 rm9 rm1 (by omega)).mono ?_
            rintro e w20 ⟨rfl, b20⟩
            replace r1 := (r1.below b20).more b20.size
            replace rM := (rM.below b20).more b20.size
            replace rm1 := (rm1.below b20).more b20.size
            replace ry := (ry.below b20).more b20.size
            replace rm9 := (rm9.below b20).more b20.size
            replace hB := below_trans hB (Nat.le_refl _) b20
            clear b20
            go_wp2
            go_ret
            exact ⟨rfl, hB⟩
        · have h37I : ¬ ((l.length : Int) + 3 ≤ 40) := by omega
          go_wp2_with fail
          refine (alive_c _).mono ?_
          rintro e wz ⟨rfl, rfl⟩
          go_wp2
          go_ret
          exact ⟨rfl, hB⟩
end Go.Proofs.Ytoiihjbdcjllbaa
