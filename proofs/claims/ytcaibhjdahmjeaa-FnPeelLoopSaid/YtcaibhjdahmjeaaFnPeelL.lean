/- FnPeelLoop: the walk of the law. -/
import Derived.Test.YtcaibhjdahmjeaaSame
import Derived.Test.YtcaibhjdahmjeaaRowsEq
import Derived.Test.YtcaibhjdahmjeaaPeelJ
import Derived.Test.YtcaibhjdahmjeaaPeelS
import Derived.Test.YtcaibhjdahmjeaaFnSwap
import Derived.Test.YtcaibhjdahmjeaaFnCan
import Derived.Test.YtcaibhjdahmjeaaFnPeel
namespace Go.Proofs.Ytcaibhjdahmjeaa
open Go.RowKit
set_option linter.unusedVariables false
set_option linter.unusedSimpArgs false

theorem peell_law {l x : List Cd} {a : Int} (h : peelB l a = true) (hx : peelR l a = x) : pv l = true ∧ pv x = true ∧ (0 ≤ a ∧ a < l.length ∧ a < x.length) ∧ (cdAt x a.toNat).op = 11 ∧ x.length ≤ 40 ∧ l.length ≤ 40 ∧
    (countOp l 13 ≤ countOp x 13 ∨ (countOp l 13 = countOp x 13 + 1 ∧ (cdAt l a.toNat).b = 1)) ∧
    ∀ (n : Nat) (m : List Int), 1 ≤ n ∧ n ≤ 8 → memOk m = true → runOf x (n : Int) m = runOf l n m ∧ wholeOf x (n : Int) m = wholeOf l n m ∧ (lockS x n m).regs = (lockS l n m).regs := by
  have h' := h
  simp only [peelB, peelOk, Bool.and_eq_true] at h'
  obtain ⟨hp, hin, ho, hp2⟩ := h'
  have hi := inR_iff.1 hin
  have e : x = peelOut l a.toNat := by rw [← hx]; unfold peelR; rw [if_pos hp, if_pos (by simp only [peelOk, Bool.and_eq_true]; exact ⟨hin, ho, hp2⟩)]
  subst e
  have hat := peel_at h
  have hlt := (List.getElem?_eq_some_iff.1 hat).1
  refine ⟨hp, hp2, ⟨hi.1, by omega, by omega⟩, by rw [cdAt_get hat]; rfl, (pv_iff.1 hp2).1, (pv_iff.1 hp).1, peel_count h, fun n m hn hm => alike_run hp hp2 hn hm (peel_run h hn.2 m).2⟩
theorem peell_bad {l x : List Cd} {a : Int} (h : peelB l a = false) (hx : peelR l a = x) : x = [] ∨ x = l := by
  subst hx
  unfold peelR
  cases hp : pv l with
  | false => simp
  | true =>
    rw [peelB, hp, Bool.true_and] at h
    simp [h]

def DPLRel (w : World) (B g K : Nat) (A : Option Addr) (n c : Nat) (av kv : Value) (wr : World) : Prop := ∃ (k : Nat) (a : Int), k ≤ n ∧ kv = .int .i64 k ∧ av = .int .i64 a ∧ DSx w B g (K + k) A n c wr

set_option maxRecDepth 100000 in
theorem drawPeelLoop_c (A : Option Addr) (c : Nat) (bs : List Int) (w : World) (hA : Reads w w.heap.size 1 A bs.length (bs.map (.int .u8))) (hb : ∀ x ∈ bs, 0 ≤ x ∧ x ≤ 255) (hl : bs.length ≤ 9223372036854775807) (hcap : bs.length ≤ c) :
    Calls Try.prog 30 #[.slice A bs.length c] w fun e w' => ∃ (l : List Cd) (A' : Option Addr) (c' : Nat) (a : Int), e = .returned (.tuple #[.slice A' l.length c', .int .i64 a]) ∧ l.length ≤ 200000 ∧ OC w' w.heap.size A' l.length c' l ∧ Below w.heap.size w w' := by
  go_enter Try.func30, Try.ntmps30
  go_wp2_with fail
  refine (l20Open_c A c bs w hA hb hl hcap).mono ?_
  rintro e w1 ⟨rfl, hR, hB, hs⟩
  go_wp2_with fail
  refine (l20Spot_c hR (by omega)).mono ?_
  rintro e w2 ⟨A2, n2, c2, a, rfl, hn2, D2⟩
  clear hR
  go_wp2
  go_loopw [6, 7] (fun av kv wr => DPLRel w1 w.heap.size w.heap.size 1000000 A2 n2 c2 av kv wr) (fun _ kv _ => n2 - (intOf kv).toNat)
  case atStart => exact ⟨0, _, Nat.zero_le _, rfl, rfl, D2.more (by omega)⟩
  case round =>
    clear D2
    obtain ⟨k, a, hk, rfl, rfl, D⟩ := hrel
    by_cases hlt : k < n2
    · obtain ⟨l, hll, hrd, -⟩ := D.reads
      obtain ⟨b, off, x, rfl, hbB, hx, c0, c1, c2, c3⟩ := hrd.at_ (show k < l.length by omega)
      obtain ⟨xo, xa, xb, xc⟩ := x
      have hkI : (k : Int) < (n2 : Int) := by omega
      clear hx hrd hll
      simp only at c0
      cases ho : (xo == 13) with
      | false =>
        go_wp2
        go_roundw
        case rel => exact ⟨k + 1, a, by omega, by go_num, rfl, D.more (by omega)⟩
        case measure => (simp [intOf] <;> omega)
      | true =>
        go_wp2_with fail
        refine (pick_i D.rd (by omega) _ (by decide) (by decide)).mono ?_
        rintro e w7 ⟨v7, rfl, hv7, hR7, hg, -, -⟩
        have D7 := D.pick hR7 hg
        clear D hg hR7
        by_cases h7 : v7 = 0
        · subst h7
          go_wp2
          go_roundw
          case rel => exact ⟨k + 1, k, by omega, by go_num, rfl, D7.more (by omega)⟩
          case measure => (simp [intOf] <;> omega)
        · have h7b : ((v7 : Int) == 0) = false := by rw [beq_eq_false_iff_ne]; omega
          go_wp2
          go_roundw
          case rel => exact ⟨k + 1, a, by omega, by go_num, rfl, D7.more (by omega)⟩
          case measure => (simp [intOf] <;> omega)
    · obtain ⟨l, h1, h2, h3, h4⟩ := D
      have hll := OC.len h1
      subst hll
      have hB5 := hB.grown h3 hB.size (fun k e => by cases e; exact Nat.le_refl _)
      go_wp2
      go_ret2
      exact ⟨l, A2, c2, a, rfl, hn2, OR.mono h1 hB.size, hB5⟩

set_option maxRecDepth 100000 in
set_option maxHeartbeats 8000000 in
theorem fnPeelLoop_c (w : World) (A : Option Addr) (c : Nat) (bs : List Int) (hA : Reads w w.heap.size 1 A bs.length (bs.map (.int .u8))) (hl : bs.length ≤ 9223372036854775807) (hb : ∀ x ∈ bs, 0 ≤ x ∧ x ≤ 255) (hcap : bs.length ≤ c) :
    Calls Try.prog 5 #[.slice A bs.length c] w fun e w' => e = .returned (.bool true) ∧ Below w.heap.size w w' := by
  by_cases hbig0 : 1048576 < bs.length
  · go_enter Try.func5, Try.ntmps5
    go_wp2
    go_ret
    exact ⟨rfl, Below.refl _ _⟩
  · go_enter Try.func5, Try.ntmps5
    go_wp2_with fail
    refine (drawPeelLoop_c A c bs w hA hb hl hcap).mono ?_
    rintro e w1 ⟨l, A1, c1, a, rfl, hl2, o1, hB⟩
    have r1 := OC.rd o1
    have hc1 := OC.cap o1
    have hn1 := OC.nilc o1
    clear o1
    have hlx : (peelR l a).length ≤ 40 := peelR_len
    have HB := Lib.hid (fun h : peelB l a = false => peell_bad h rfl)
    have HL := Lib.hid (fun h : peelB l a = true => peell_law h rfl)
    have HI := Lib.hid (fun W (h : RdC W W.heap.size A1 l) => iPeelLoop_c A1 c1 l a W h (by omega) hn1 hc1)
    have HS := Lib.hid (fun W (h : RdC W W.heap.size A1 l) => sPeelLoop_c A1 c1 l a W h (by omega) hn1 hc1)
    clear hc1 hn1
    generalize peelR l a = x at *
    go_wp2_with fail
    refine (HI.out w1 r1).mono ?_
    rintro e w2 ⟨A2, c2, rfl, o2, b2⟩
    replace r1 := (r1.below b2).more b2.size
    replace hB := below_trans hB (Nat.le_refl _) b2
    clear b2
    have r2 := OC.rd o2
    go_wp2_with fail
    refine (HS.out w2 r1).mono ?_
    rintro e w3 ⟨A3, c3, rfl, o3, b3⟩
    replace r1 := (r1.below b3).more b3.size
    replace r2 := (r2.below b3).more b3.size
    replace hB := below_trans hB (Nat.le_refl _) b3
    clear b3
    have r3 := OC.rd o3
    clear HI HS o2 o3
    go_wp2_with fail
    refine (sameCodes_c A2 A3 c2 c3 _ w3 r2 r3 (by omega)).mono ?_
    rintro e w4 ⟨rfl, b4⟩
    replace r1 := (r1.below b4).more b4.size
    replace r2 := (r2.below b4).more b4.size
    replace r3 := (r3.below b4).more b4.size
    replace hB := below_trans hB (Nat.le_refl _) b4
    clear b4
    clear r3
    cases hp : peelB l a with
    | false =>
      by_cases h0 : x.length = 0
      · rw [h0]
        go_wp2_with fail
        refine (alive_c _).mono ?_
        rintro e wz ⟨rfl, rfl⟩
        go_wp2
        go_ret
        exact ⟨rfl, hB⟩
      · have hx : x = l := by rcases HB.out hp with e | e; exact absurd (by rw [e]; rfl) h0; exact e
        subst hx
        have h0b : ((x.length : Int) == 0) = false := beq_eq_false_iff_ne.2 (by omega)
        clear hp h0
        go_wp2_with fail
        refine (sameCodes_c A2 A1 c2 c1 _ w4 r2 r1 (by omega)).mono ?_
        rintro e w5 ⟨rfl, b5⟩
        replace r1 := (r1.below b5).more b5.size
        replace r2 := (r2.below b5).more b5.size
        replace hB := below_trans hB (Nat.le_refl _) b5
        clear b5
        go_wp2_with fail
        refine (alive_c _).mono ?_
        rintro e wz ⟨rfl, rfl⟩
        go_wp2
        go_ret
        exact ⟨rfl, hB⟩
    | true =>
      obtain ⟨hpl, hpx, ⟨ha0, hal, hax⟩, hop, hx40, hl40, hcnt, hrun⟩ := HL.out hp
      have HR := Lib.hid (hrun 4 [3, 1, 4, 1, 5, 9] (by omega) (by decide))
      have HR2 := Lib.hid (hrun 4 [7, 8] (by omega) (by decide))
      have HO := Lib.hid (show lockOk l (4 : Nat) [7, 8] = true by simp only [lockOk, hpl]; decide)
      have HOX := Lib.hid (show lockOk x (4 : Nat) [7, 8] = true by simp only [lockOk, hpx]; decide)
      have HPX := Lib.hid (fun W h => iProgramValid_c A2 c2 x W h (by omega))
      rw [hpx] at HPX
      have HCL := Lib.hid (fun W h => iCountOps_c A1 c1 l 13 W h (by omega))
      have HCX := Lib.hid (fun W h => iCountOps_c A2 c2 x 13 W h (by omega))
      have ecl : countOpI l 13 = (countOp l 13 : Int) := by simp [countOpI, hpl]
      have ecx : countOpI x 13 = (countOp x 13 : Int) := by simp [countOpI, hpx]
      rw [ecl] at HCL
      rw [ecx] at HCX
      have b1 := countOp_le l 13
      have b2 := countOp_le x 13
      have HOP := Lib.hid hop
      have HCNT := Lib.hid hcnt
      clear hp hpl hpx hop hcnt hrun HL HB ecl ecx
      generalize countOp l 13 = kl at *
      generalize countOp x 13 = kx at *
      obtain ⟨j, rfl⟩ : ∃ j : Nat, a = (j : Int) := ⟨a.toNat, by omega⟩
      rw [Int.toNat_natCast] at HOP HCNT
      go_wp2_with fail
      have rM : RdI (w4.alloc (.cells #[.int .i64 3, .int .i64 1, .int .i64 4, .int .i64 1, .int .i64 5, .int .i64 9] 3)) (w4.alloc (.cells #[.int .i64 3, .int .i64 1, .int .i64 4, .int .i64 1, .int .i64 5, .int .i64 9] 3)).heap.size (some ⟨w4.heap.size, 0, none⟩) [3, 1, 4, 1, 5, 9] :=
        (OR.lit w4 w4.heap.size 3 1 6 #[.int .i64 3, .int .i64 1, .int .i64 4, .int .i64 1, .int .i64 5, .int .i64 9] (Nat.le_refl _) (by omega) rfl).reads
      have b6 : Below w4.heap.size w4 (w4.alloc (.cells #[.int .i64 3, .int .i64 1, .int .i64 4, .int .i64 1, .int .i64 5, .int .i64 9] 3)) := (by repeat (first | exact Below.refl _ _ | assumption | refine Below.alloc ?_ (by simp <;> omega) _ | refine Below.setCell ?_ (by simp <;> omega) _ | refine Below.drew ?_))
      replace r1 := (r1.below b6).more b6.size
      replace r2 := (r2.below b6).more b6.size
      replace hB := below_trans hB (Nat.le_refl _) b6
      clear b6
      refine (iRunLock_c A1 _ c1 6 l (4 : Nat) [3, 1, 4, 1, 5, 9] _ r1 rM (by omega) (by decide)).mono ?_
      rintro e w7 ⟨M1, d1, rfl, rm1, b7⟩
      replace r1 := (r1.below b7).more b7.size
      replace r2 := (r2.below b7).more b7.size
      replace rM := (rM.below b7).more b7.size
      replace hB := below_trans hB (Nat.le_refl _) b7
      clear b7
      clear rM
      go_wp2_with fail
      have rM : RdI (w7.alloc (.cells #[.int .i64 3, .int .i64 1, .int .i64 4, .int .i64 1, .int .i64 5, .int .i64 9] 3)) (w7.alloc (.cells #[.int .i64 3, .int .i64 1, .int .i64 4, .int .i64 1, .int .i64 5, .int .i64 9] 3)).heap.size (some ⟨w7.heap.size, 0, none⟩) [3, 1, 4, 1, 5, 9] :=
        (OR.lit w7 w7.heap.size 3 1 6 #[.int .i64 3, .int .i64 1, .int .i64 4, .int .i64 1, .int .i64 5, .int .i64 9] (Nat.le_refl _) (by omega) rfl).reads
      have b8 : Below w7.heap.size w7 (w7.alloc (.cells #[.int .i64 3, .int .i64 1, .int .i64 4, .int .i64 1, .int .i64 5, .int .i64 9] 3)) := (by repeat (first | exact Below.refl _ _ | assumption | refine Below.alloc ?_ (by simp <;> omega) _ | refine Below.setCell ?_ (by simp <;> omega) _ | refine Below.drew ?_))
      replace r1 := (r1.below b8).more b8.size
      replace r2 := (r2.below b8).more b8.size
      replace rm1 := (rm1.below b8).more b8.size
      replace hB := below_trans hB (Nat.le_refl _) b8
      clear b8
      refine (iRunLock_c A2 _ c2 6 x (4 : Nat) [3, 1, 4, 1, 5, 9] _ r2 rM (by omega) (by decide)).mono ?_
      rintro e w9 ⟨M2, d2, rfl, rm2, b9⟩
      replace r1 := (r1.below b9).more b9.size
      replace r2 := (r2.below b9).more b9.size
      replace rm1 := (rm1.below b9).more b9.size
      replace rM := (rM.below b9).more b9.size
      replace hB := below_trans hB (Nat.le_refl _) b9
      clear b9
      clear rM
      rw [HR.out.1, HR.out.2.1]
      rw [HR.out.1] at rm2
      have hrl := runOf_len l ((4 : Nat) : Int) [3, 1, 4, 1, 5, 9]
      generalize runOf l ((4 : Nat) : Int) [3, 1, 4, 1, 5, 9] = R at *
      generalize wholeOf l ((4 : Nat) : Int) [3, 1, 4, 1, 5, 9] = bw at *
      have hbb : (bw == bw) = true := by simp
      go_wp2_with fail
      refine (HCL.out w9 r1).mono ?_
      rintro e w10 ⟨rfl, b10⟩
      replace r1 := (r1.below b10).more b10.size
      replace r2 := (r2.below b10).more b10.size
      replace rm1 := (rm1.below b10).more b10.size
      replace rm2 := (rm2.below b10).more b10.size
      replace hB := below_trans hB (Nat.le_refl _) b10
      clear b10
      go_wp2_with fail
      refine (HCX.out w10 r2).mono ?_
      rintro e w11 ⟨rfl, b11⟩
      replace r1 := (r1.below b11).more b11.size
      replace r2 := (r2.below b11).more b11.size
      replace rm1 := (rm1.below b11).more b11.size
      replace rm2 := (rm2.below b11).more b11.size
      replace hB := below_trans hB (Nat.le_refl _) b11
      clear b11
      have hgone : IntKind.i64.wrap ((kl : Int) - (kx : Int)) = (kl : Int) - kx := IntWalk.i64_in _ (by omega)
      go_wp2_with fail
      refine (sameInts_c M1 M2 d1 d2 R w11 rm1 rm2 (by omega)).mono ?_
      rintro e w12 ⟨rfl, b12⟩
      replace r1 := (r1.below b12).more b12.size
      replace r2 := (r2.below b12).more b12.size
      replace rm1 := (rm1.below b12).more b12.size
      replace rm2 := (rm2.below b12).more b12.size
      replace hB := below_trans hB (Nat.le_refl _) b12
      clear b12
      clear rm1
      clear rm2
      go_wp2_with fail
      have rM : RdI (w12.alloc (.cells #[.int .i64 7, .int .i64 8] 3)) (w12.alloc (.cells #[.int .i64 7, .int .i64 8] 3)).heap.size (some ⟨w12.heap.size, 0, none⟩) [7, 8] :=
        (OR.lit w12 w12.heap.size 3 1 2 #[.int .i64 7, .int .i64 8] (Nat.le_refl _) (by omega) rfl).reads
      have b13 : Below w12.heap.size w12 (w12.alloc (.cells #[.int .i64 7, .int .i64 8] 3)) := (by repeat (first | exact Below.refl _ _ | assumption | refine Below.alloc ?_ (by simp <;> omega) _ | refine Below.setCell ?_ (by simp <;> omega) _ | refine Below.drew ?_))
      replace r1 := (r1.below b13).more b13.size
      replace r2 := (r2.below b13).more b13.size
      replace hB := below_trans hB (Nat.le_refl _) b13
      clear b13
      refine (iLockRegs_c A1 _ c1 2 l (4 : Nat) [7, 8] _ r1 rM (by omega) (by decide) HO.out).mono ?_
      rintro e w14 ⟨z1, T1, tc1, U1, uc1, rfl, hz, I, b14⟩
      replace r1 := (r1.below b14).more b14.size
      replace r2 := (r2.below b14).more b14.size
      replace rM := (rM.below b14).more b14.size
      replace hB := below_trans hB (Nat.le_refl _) b14
      clear b14
      clear rM
      have hs1 : (lockS l ((4 : Nat) : Int).toNat [7, 8]).regs.length = z1.n := by rw [hz]; exact (lockS_len HO.out).len
      have q1 := I.rows hs1
      rw [← hs1]
      clear I hz hs1
      go_wp2_with fail
      have rM : RdI (w14.alloc (.cells #[.int .i64 7, .int .i64 8] 3)) (w14.alloc (.cells #[.int .i64 7, .int .i64 8] 3)).heap.size (some ⟨w14.heap.size, 0, none⟩) [7, 8] :=
        (OR.lit w14 w14.heap.size 3 1 2 #[.int .i64 7, .int .i64 8] (Nat.le_refl _) (by omega) rfl).reads
      have b15 : Below w14.heap.size w14 (w14.alloc (.cells #[.int .i64 7, .int .i64 8] 3)) := (by repeat (first | exact Below.refl _ _ | assumption | refine Below.alloc ?_ (by simp <;> omega) _ | refine Below.setCell ?_ (by simp <;> omega) _ | refine Below.drew ?_))
      replace r1 := (r1.below b15).more b15.size
      replace r2 := (r2.below b15).more b15.size
      replace q1 := q1.below b15
      replace hB := below_trans hB (Nat.le_refl _) b15
      clear b15
      refine (iLockRegs_c A2 _ c2 2 x (4 : Nat) [7, 8] _ r2 rM (by omega) (by decide) HOX.out).mono ?_
      rintro e w16 ⟨z2, T2, tc2, U2, uc2, rfl, hz, I, b16⟩
      replace r1 := (r1.below b16).more b16.size
      replace r2 := (r2.below b16).more b16.size
      replace rM := (rM.below b16).more b16.size
      replace q1 := q1.below b16
      replace hB := below_trans hB (Nat.le_refl _) b16
      clear b16
      clear rM
      have hs2 : (lockS x ((4 : Nat) : Int).toNat [7, 8]).regs.length = z2.n := by rw [hz]; exact (lockS_len HOX.out).len
      have q2 := I.rows hs2
      rw [← hs2]
      clear I hz hs2
      simp only [Int.toNat_natCast] at q1 q2 ⊢
      rw [HR2.out.2.2] at q2 ⊢
      have hrr : (lockS l 4 [7, 8]).regs.length ≤ 8 := by have h := lockS_len HO.out; have h8 := h.n8; rw [Int.toNat_natCast] at h h8; rw [h.len]; omega
      generalize (lockS l 4 [7, 8]).regs = rows at *
      go_wp2_with fail
      refine (sameRows_c z1.rg z2.rg z1.rc z2.rc z1.rk z2.rk rows w16 q1 q2 (by omega)).mono ?_
      rintro e w17 ⟨rfl, b17⟩
      replace r1 := (r1.below b17).more b17.size
      replace r2 := (r2.below b17).more b17.size
      replace q1 := q1.below b17
      replace q2 := q2.below b17
      replace hB := below_trans hB (Nat.le_refl _) b17
      clear b17
      clear q1
      clear q2
      go_wp2_with fail
      refine (HPX.out w17 r2).mono ?_
      rintro e w18 ⟨rfl, b18⟩
      replace r1 := (r1.below b18).more b18.size
      replace r2 := (r2.below b18).more b18.size
      replace hB := below_trans hB (Nat.le_refl _) b18
      clear b18
      obtain ⟨pb, po, px, rfl, -, hpx, x0, -, -, -⟩ := r2.at_ (k := j) (by omega)
      have hpo : px.op = 11 := by have := HOP.out; rw [cdAt_get hpx] at this; exact this
      rw [hpo] at x0
      obtain ⟨qb, qo, qx, rfl, -, hqx, -, -, y2, -⟩ := r1.at_ (k := j) (by omega)
      have hcase : kl ≤ kx ∨ (kl = kx + 1 ∧ qx.b = 1) := by have := HCNT.out; rw [cdAt_get hqx] at this; exact this
      clear hpx hqx hpo
      rcases hcase with hle | ⟨he, hb1⟩
      · have hdec : decide ((kl : Int) - (kx : Int) ≤ 0) = true := decide_eq_true (by omega)
        go_wp2
        go_ret
        exact ⟨rfl, hB⟩
      · have he1 : (kl : Int) - (kx : Int) = 1 := by omega
        rw [he1]
        rw [hb1] at y2
        clear hgone he
        go_wp2
        go_ret
        exact ⟨rfl, hB⟩
end Go.Proofs.Ytcaibhjdahmjeaa
