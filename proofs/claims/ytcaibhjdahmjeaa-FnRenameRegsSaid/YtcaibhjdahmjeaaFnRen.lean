/- FnRenameRegs: the walk of the law. -/
import Derived.Test.YtcaibhjdahmjeaaNamesD
import Derived.Test.YtcaibhjdahmjeaaRowsEq
import Derived.Test.YtcaibhjdahmjeaaNames1
import Derived.Test.YtcaibhjdahmjeaaSem
import Derived.Test.YtcaibhjdahmjeaaFnSwap
namespace Go.Proofs.Ytcaibhjdahmjeaa
open Go.RowKit
set_option linter.unusedVariables false
set_option linter.unusedSimpArgs false

theorem rename_law {l x : List Cd} {t : List Int} (hx : renameL l t = x) (h0 : x ≠ []) : pv l = true ∧ pv x = true ∧ x.length = l.length ∧ t.length = 4 ∧ (∀ r : Nat, r < 4 → 0 ≤ nm t r ∧ nm t r ≤ 3) ∧
    ∀ (n : Nat) (m : List Int), 1 ≤ n ∧ n ≤ 8 → memOk m = true → (runOf x (n : Int) m = runOf l n m ∧ wholeOf x (n : Int) m = wholeOf l n m) ∧
      ∀ k r : Nat, k < n → r < 4 → rg ((lockS x n m).regs.getD k []) (nm t r) = rg ((lockS l n m).regs.getD k []) r := by
  unfold renameL at hx
  cases hp : pv l with
  | false => rw [hp] at hx; exact absurd hx.symm h0
  | true =>
    cases hn : nameOk t with
    | false => rw [hp, hn] at hx; exact absurd hx.symm h0
    | true =>
      rw [hp, hn] at hx
      simp only [Bool.and_self, if_true] at hx
      subst hx
      have hf := names_of hn
      obtain ⟨h1, h2⟩ := names_run hf hp
      refine ⟨rfl, h1, by simp, (nameOk_all hn).1, fun r hr => hf.bd r (by omega) (by omega), fun n m hn8 hm => ?_⟩
      have R := h2 (n := n) m hn8.2
      have hin : inR (n : Int) 1 8 = true := inR_iff.2 (by omega)
      refine ⟨⟨?_, ?_⟩, fun k r hk hr => (R.rr k hk).2.2 r (by omega) (by omega)⟩
      · simp only [runOf, lockOk, hp, h1, hin, hm, Int.toNat_natCast, R.mem]
      · simp only [wholeOf, lockOk, hp, h1, hin, hm, Int.toNat_natCast, R.beats, split_ren]

theorem drawRenameRegs_c (A : Option Addr) (c : Nat) (bs : List Int) (w : World) (hA : Reads w w.heap.size 1 A bs.length (bs.map (.int .u8))) (hb : ∀ x ∈ bs, 0 ≤ x ∧ x ≤ 255) (hl : bs.length ≤ 9223372036854775807) (hcap : bs.length ≤ c) :
    Calls Try.prog 26 #[.slice A bs.length c] w fun e w' => ∃ (l : List Cd) (A' : Option Addr) (c' : Nat) (t : List Int) (At : Option Addr) (ct : Nat), e = .returned (.tuple #[.slice A' l.length c', .slice At t.length ct]) ∧ l.length ≤ 200000 ∧ t.length ≤ 4 ∧ RdC w' w'.heap.size A' l ∧ RdI w' w'.heap.size At t ∧ Below w.heap.size w w' := by
  go_enter Try.func26, Try.ntmps26
  go_wp2_with fail
  refine (l20Open_c A c bs w hA hb hl hcap).mono ?_
  rintro e w1 ⟨rfl, hR, hB, hs⟩
  go_wp2_with fail
  refine (l20Program_c hR (by omega) 14 (by omega)).mono ?_
  rintro e w2 ⟨A2, n2, c2, rfl, hn2, D2⟩
  clear hR
  go_wp2_with fail
  refine (l20Names_c D2.rd (by omega) 9 (by omega)).mono ?_
  rintro e w3 ⟨t, At, ct, rfl, ht4, hT, hR3, hg3, -⟩
  have D3 := D2.pick hR3 hg3
  clear D2
  obtain ⟨l, h1, h2, h3, h4⟩ := D3
  have hll := OC.len h1
  subst hll
  have hB5 := hB.grown h3 hB.size (fun k e => by cases e; exact Nat.le_refl _)
  go_wp2
  go_ret2
  exact ⟨l, A2, c2, t, At, ct, rfl, hn2, ht4, OC.rd h1, hT, hB5⟩

set_option maxRecDepth 100000 in
set_option maxHeartbeats 8000000 in
theorem fnRenameRegs_c (w : World) (A : Option Addr) (c : Nat) (bs : List Int) (hA : Reads w w.heap.size 1 A bs.length (bs.map (.int .u8))) (hl : bs.length ≤ 9223372036854775807) (hb : ∀ x ∈ bs, 0 ≤ x ∧ x ≤ 255) (hcap : bs.length ≤ c) :
    Calls Try.prog 4 #[.slice A bs.length c] w fun e w' => e = .returned (.bool true) ∧ Below w.heap.size w w' := by
  by_cases hbig0 : 1048576 < bs.length
  · go_enter Try.func4, Try.ntmps4
    go_wp2
    go_ret
    exact ⟨rfl, Below.refl _ _⟩
  · go_enter Try.func4, Try.ntmps4
    go_wp2_with fail
    refine (drawRenameRegs_c A c bs w hA hb hl hcap).mono ?_
    rintro e w1 ⟨l, A1, c1, t, At, ct, rfl, hl2, ht4, r1, rT, hB⟩
    have hlx : (renameL l t).length ≤ l.length := renameL_len l t
    have HL := Lib.hid (fun h : renameL l t ≠ [] => rename_law rfl h)
    have HI := Lib.hid (fun W (h : RdC W W.heap.size A1 l) (h2 : RdI W W.heap.size At t) => iRenameRegs_c A1 At c1 ct l t W h (by omega) h2 (by omega))
    have HS := Lib.hid (fun W (h : RdC W W.heap.size A1 l) (h2 : RdI W W.heap.size At t) => sRenameRegs_c A1 At c1 ct l t W h (by omega) h2 (by omega))
    generalize renameL l t = x at *
    go_wp2_with fail
    refine (HI.out w1 r1 rT).mono ?_
    rintro e w2 ⟨A2, c2, rfl, o2, b2⟩
    replace r1 := (r1.below b2).more b2.size
    replace rT := (rT.below b2).more b2.size
    replace hB := below_trans hB (Nat.le_refl _) b2
    clear b2
    have r2 := OwC.rd o2
    go_wp2_with fail
    refine (HS.out w2 r1 rT).mono ?_
    rintro e w3 ⟨A3, c3, rfl, o3, b3⟩
    replace r1 := (r1.below b3).more b3.size
    replace rT := (rT.below b3).more b3.size
    replace r2 := (r2.below b3).more b3.size
    replace hB := below_trans hB (Nat.le_refl _) b3
    clear b3
    have r3 := OwC.rd o3
    clear HI HS o2 o3
    go_wp2_with fail
    refine (sameCodes_c A2 A3 c2 c3 _ w3 r2 r3 (by omega)).mono ?_
    rintro e w4 ⟨rfl, b4⟩
    replace r1 := (r1.below b4).more b4.size
    replace rT := (rT.below b4).more b4.size
    replace r2 := (r2.below b4).more b4.size
    replace r3 := (r3.below b4).more b4.size
    replace hB := below_trans hB (Nat.le_refl _) b4
    clear b4
    clear r3
    by_cases h0 : x.length = 0
    · rw [h0]
      go_wp2_with fail
      refine (alive_c _).mono ?_
      rintro e wz ⟨rfl, rfl⟩
      go_wp2
      go_ret
      exact ⟨rfl, hB⟩
    · obtain ⟨hpl, hpx, hlen, ht, hbd, hrun⟩ := HL.out (fun e => h0 (by rw [e]; rfl))
      have h0b : ((x.length : Int) == 0) = false := beq_eq_false_iff_ne.2 (by omega)
      have HR := Lib.hid (hrun 4 [3, 1, 4, 1, 5, 9] (by omega) (by decide)).1
      have HR2 := Lib.hid (hrun 4 [7, 8] (by omega) (by decide)).2
      have HO := Lib.hid (show lockOk l (4 : Nat) [7, 8] = true by simp only [lockOk, hpl]; decide)
      have HOX := Lib.hid (show lockOk x (4 : Nat) [7, 8] = true by simp only [lockOk, hpx]; decide)
      have HPX := Lib.hid (fun W h => iProgramValid_c A2 c2 x W h (by omega))
      rw [hpx] at HPX
      have HLEN := Lib.hid (show ((x.length : Int) == (l.length : Int)) = true by rw [hlen]; simp)
      have HBD := Lib.hid hbd
      have HT := Lib.hid ht
      clear hpl hpx hlen hbd hrun HL h0 ht
      go_wp2_with fail
      have rM : RdI (w4.alloc (.cells #[.int .i64 3, .int .i64 1, .int .i64 4, .int .i64 1, .int .i64 5, .int .i64 9] 3)) (w4.alloc (.cells #[.int .i64 3, .int .i64 1, .int .i64 4, .int .i64 1, .int .i64 5, .int .i64 9] 3)).heap.size (some ⟨w4.heap.size, 0, none⟩) [3, 1, 4, 1, 5, 9] :=
        (OR.lit w4 w4.heap.size 3 1 6 #[.int .i64 3, .int .i64 1, .int .i64 4, .int .i64 1, .int .i64 5, .int .i64 9] (Nat.le_refl _) (by omega) rfl).reads
      have b5 : Below w4.heap.size w4 (w4.alloc (.cells #[.int .i64 3, .int .i64 1, .int .i64 4, .int .i64 1, .int .i64 5, .int .i64 9] 3)) := (by repeat (first | exact Below.refl _ _ | assumption | refine Below.alloc ?_ (by simp <;> omega) _ | refine Below.setCell ?_ (by simp <;> omega) _ | refine Below.drew ?_))
      replace r1 := (r1.below b5).more b5.size
      replace rT := (rT.below b5).more b5.size
      replace r2 := (r2.below b5).more b5.size
      replace hB := below_trans hB (Nat.le_refl _) b5
      clear b5
      refine (iRunLock_c A1 _ c1 6 l (4 : Nat) [3, 1, 4, 1, 5, 9] _ r1 rM (by omega) (by decide)).mono ?_
      rintro e w6 ⟨M1, d1, rfl, rm1, b6⟩
      replace r1 := (r1.below b6).more b6.size
      replace rT := (rT.below b6).more b6.size
      replace r2 := (r2.below b6).more b6.size
      replace rM := (rM.below b6).more b6.size
      replace hB := below_trans hB (Nat.le_refl _) b6
      clear b6
      clear rM
      go_wp2_with fail
      have rM : RdI (w6.alloc (.cells #[.int .i64 3, .int .i64 1, .int .i64 4, .int .i64 1, .int .i64 5, .int .i64 9] 3)) (w6.alloc (.cells #[.int .i64 3, .int .i64 1, .int .i64 4, .int .i64 1, .int .i64 5, .int .i64 9] 3)).heap.size (some ⟨w6.heap.size, 0, none⟩) [3, 1, 4, 1, 5, 9] :=
        (OR.lit w6 w6.heap.size 3 1 6 #[.int .i64 3, .int .i64 1, .int .i64 4, .int .i64 1, .int .i64 5, .int .i64 9] (Nat.le_refl _) (by omega) rfl).reads
      have b7 : Below w6.heap.size w6 (w6.alloc (.cells #[.int .i64 3, .int .i64 1, .int .i64 4, .int .i64 1, .int .i64 5, .int .i64 9] 3)) := (by repeat (first | exact Below.refl _ _ | assumption | refine Below.alloc ?_ (by simp <;> omega) _ | refine Below.setCell ?_ (by simp <;> omega) _ | refine Below.drew ?_))
      replace r1 := (r1.below b7).more b7.size
      replace rT := (rT.below b7).more b7.size
      replace r2 := (r2.below b7).more b7.size
      replace rm1 := (rm1.below b7).more b7.size
      replace hB := below_trans hB (Nat.le_refl _) b7
      clear b7
      refine (iRunLock_c A2 _ c2 6 x (4 : Nat) [3, 1, 4, 1, 5, 9] _ r2 rM (by omega) (by decide)).mono ?_
      rintro e w8 ⟨M2, d2, rfl, rm2, b8⟩
      replace r1 := (r1.below b8).more b8.size
      replace rT := (rT.below b8).more b8.size
      replace r2 := (r2.below b8).more b8.size
      replace rm1 := (rm1.below b8).more b8.size
      replace rM := (rM.below b8).more b8.size
      replace hB := below_trans hB (Nat.le_refl _) b8
      clear b8
      clear rM
      rw [HR.out.1, HR.out.2]
      rw [HR.out.1] at rm2
      have hrl := runOf_len l ((4 : Nat) : Int) [3, 1, 4, 1, 5, 9]
      generalize runOf l ((4 : Nat) : Int) [3, 1, 4, 1, 5, 9] = R at *
      generalize wholeOf l ((4 : Nat) : Int) [3, 1, 4, 1, 5, 9] = bw at *
      have hbb : (bw == bw) = true := by simp
      go_wp2_with fail
      have rM : RdI (w8.alloc (.cells #[.int .i64 7, .int .i64 8] 3)) (w8.alloc (.cells #[.int .i64 7, .int .i64 8] 3)).heap.size (some ⟨w8.heap.size, 0, none⟩) [7, 8] :=
        (OR.lit w8 w8.heap.size 3 1 2 #[.int .i64 7, .int .i64 8] (Nat.le_refl _) (by omega) rfl).reads
      have b9 : Below w8.heap.size w8 (w8.alloc (.cells #[.int .i64 7, .int .i64 8] 3)) := (by repeat (first | exact Below.refl _ _ | assumption | refine Below.alloc ?_ (by simp <;> omega) _ | refine Below.setCell ?_ (by simp <;> omega) _ | refine Below.drew ?_))
      replace r1 := (r1.below b9).more b9.size
      replace rT := (rT.below b9).more b9.size
      replace r2 := (r2.below b9).more b9.size
      replace rm1 := (rm1.below b9).more b9.size
      replace rm2 := (rm2.below b9).more b9.size
      replace hB := below_trans hB (Nat.le_refl _) b9
      clear b9
      refine (iLockRegs_c A1 _ c1 2 l (4 : Nat) [7, 8] _ r1 rM (by omega) (by decide) HO.out).mono ?_
      rintro e w10 ⟨z1, T1, tc1, U1, uc1, rfl, hz, I, b10⟩
      replace r1 := (r1.below b10).more b10.size
      replace rT := (rT.below b10).more b10.size
      replace r2 := (r2.below b10).more b10.size
      replace rm1 := (rm1.below b10).more b10.size
      replace rm2 := (rm2.below b10).more b10.size
      replace rM := (rM.below b10).more b10.size
      replace hB := below_trans hB (Nat.le_refl _) b10
      clear b10
      clear rM
      have hs1 : (lockS l ((4 : Nat) : Int).toNat [7, 8]).regs.length = z1.n := by rw [hz]; exact (lockS_len HO.out).len
      have q1 := I.rows hs1
      have hz1 : z1.n = 4 := hz
      rw [hz1] at hs1 ⊢
      clear I hz hz1
      go_wp2_with fail
      have rM : RdI (w10.alloc (.cells #[.int .i64 7, .int .i64 8] 3)) (w10.alloc (.cells #[.int .i64 7, .int .i64 8] 3)).heap.size (some ⟨w10.heap.size, 0, none⟩) [7, 8] :=
        (OR.lit w10 w10.heap.size 3 1 2 #[.int .i64 7, .int .i64 8] (Nat.le_refl _) (by omega) rfl).reads
      have b11 : Below w10.heap.size w10 (w10.alloc (.cells #[.int .i64 7, .int .i64 8] 3)) := (by repeat (first | exact Below.refl _ _ | assumption | refine Below.alloc ?_ (by simp <;> omega) _ | refine Below.setCell ?_ (by simp <;> omega) _ | refine Below.drew ?_))
      replace r1 := (r1.below b11).more b11.size
      replace rT := (rT.below b11).more b11.size
      replace r2 := (r2.below b11).more b11.size
      replace rm1 := (rm1.below b11).more b11.size
      replace rm2 := (rm2.below b11).more b11.size
      replace q1 := q1.below b11
      replace hB := below_trans hB (Nat.le_refl _) b11
      clear b11
      refine (iLockRegs_c A2 _ c2 2 x (4 : Nat) [7, 8] _ r2 rM (by omega) (by decide) HOX.out).mono ?_
      rintro e w12 ⟨z2, T2, tc2, U2, uc2, rfl, hz, I, b12⟩
      replace r1 := (r1.below b12).more b12.size
      replace rT := (rT.below b12).more b12.size
      replace r2 := (r2.below b12).more b12.size
      replace rm1 := (rm1.below b12).more b12.size
      replace rm2 := (rm2.below b12).more b12.size
      replace rM := (rM.below b12).more b12.size
      replace q1 := q1.below b12
      replace hB := below_trans hB (Nat.le_refl _) b12
      clear b12
      clear rM
      have hs2 : (lockS x ((4 : Nat) : Int).toNat [7, 8]).regs.length = z2.n := by rw [hz]; exact (lockS_len HOX.out).len
      have q2 := I.rows hs2
      have hz2 : z2.n = 4 := hz
      rw [hz2] at hs2 ⊢
      clear I hz hz2
      simp only [Int.toNat_natCast] at q1 q2 hs1 hs2
      have HRR := Lib.hid HR2.out
      clear HR2
      generalize (lockS l 4 [7, 8]).regs = rows1 at *
      generalize (lockS x 4 [7, 8]).regs = rows2 at *
      go_wp2
      go_loopw [12] (fun kv wr => ∃ k : Nat, k ≤ 4 ∧ kv = .int .i64 k ∧ Below w12.heap.size w12 wr) (fun kv _ => 4 - (intOf kv).toNat)
      case atStart => exact ⟨0, Nat.zero_le _, rfl, Below.refl _ _⟩
      case round =>
        obtain ⟨k, hk, rfl, hbk⟩ := hrel
        obtain ⟨ow, how⟩ : ∃ z, z = wr := ⟨wr, rfl⟩
        subst how
        by_cases hlt : k < 4
        · have hkI : (k : Int) < 4 := by omega
          replace q1 := q1.below hbk
          replace q2 := q2.below hbk
          replace rT := (rT.below hbk).more hbk.size
          have o1 := q1.out k (by omega)
          have o2 := q2.out k (by omega)
          have i1 := q1.inn k (by omega)
          have i2 := q2.inn k (by omega)
          have f1 := q1.four k (by omega)
          have f2 := q2.four k (by omega)
          have HK := Lib.hid (fun r (h : r < 4) => HRR.out k r hlt h)
          clear q1 q2
          generalize rows1.getD k [] = ra at *
          generalize rows2.getD k [] = rb at *
          go_wp2
          go_loopw [13] (fun rv wr => ∃ r : Nat, r ≤ 4 ∧ rv = .int .i64 r ∧ Below ow.heap.size ow wr) (fun rv _ => 4 - (intOf rv).toNat)
          case atStart => exact ⟨0, Nat.zero_le _, rfl, Below.refl _ _⟩
          case round =>
            obtain ⟨r, hr, rfl, hbr⟩ := hrel
            by_cases hlr : r < 4
            · have hrI : (r : Int) < 4 := by omega
              have ht := HT.out
              replace i1 := (i1.below hbr).more hbr.size
              replace i2 := (i2.below hbr).more hbr.size
              replace rT := (rT.below hbr).more hbr.size
              replace o1 := cell_kept hbr o1
              replace o2 := cell_kept hbr o2
              obtain ⟨p1, s1, u1, e1, -, g1, d1x⟩ := i1.at_ (k := r) (by omega)
              cases e1
              obtain ⟨p3, s3, u3, rfl, -, g3, d3x⟩ := rT.at_ (k := r) (by omega)
              obtain ⟨v, rfl⟩ : ∃ v : Nat, u3 = (v : Int) := ⟨u3.toNat, by
                have := HBD.out r hlr; have e : nm t (r : Int) = u3 := by simp [nm, List.getD_eq_getElem?_getD, g3]
                omega⟩
              have hv3 : v < 4 := by
                have := HBD.out r hlr; have e : nm t (r : Int) = (v : Int) := by simp [nm, List.getD_eq_getElem?_getD, g3]
                omega
              have hvI : (v : Int) < 4 := by omega
              obtain ⟨p2, s2, u2, e2, -, g2, d2x⟩ := i2.at_ (k := v) (by omega)
              cases e2
              have heq : u2 = u1 := by
                have h := HK.out r hlr
                have e : nm t (r : Int) = (v : Int) := by simp [nm, List.getD_eq_getElem?_getD, g3]
                rw [e] at h
                have a1 : rg rb (v : Int) = u2 := by simp [rg, List.getD_eq_getElem?_getD, g2]
                have a2 : rg ra (r : Int) = u1 := by simp [rg, List.getD_eq_getElem?_getD, g1]
                rw [← a1, ← a2]; exact h
              subst heq
              have hne : (u2 != u2) = false := by simp
              have hrt : (r : Int) < (t.length : Int) := by omega
              simp only [Nat.zero_add] at d1x d2x
              clear g1 g2 g3 i1 i2 rT f1 f2 HK ht
              go_wp2
              go_quiet (fail)
              go_wp2
              go_roundw
              case rel => exact ⟨r + 1, by omega, by go_num, below_drewN hbr _⟩
              case measure => (simp [intOf] <;> omega)
            · obtain rfl : r = 4 := by omega
              go_wp2
              go_roundw
              case rel => exact ⟨k + 1, by omega, by go_num, below_trans hbk (Nat.le_refl _) hbr⟩
              case measure => (simp [intOf] <;> omega)
        · obtain rfl : k = 4 := by omega
          clear hk hlt q1 q2 rT
          replace r1 := (r1.below hbk).more hbk.size
          replace r2 := (r2.below hbk).more hbk.size
          replace rm1 := (rm1.below hbk).more hbk.size
          replace rm2 := (rm2.below hbk).more hbk.size
          replace hB := below_trans hB (Nat.le_refl _) hbk
          clear hbk
          go_wp2_with fail
          refine (sameInts_c M1 M2 d1 d2 R ow rm1 rm2 (by omega)).mono ?_
          rintro e w13 ⟨rfl, b13⟩
          replace r1 := (r1.below b13).more b13.size
          replace r2 := (r2.below b13).more b13.size
          replace rm1 := (rm1.below b13).more b13.size
          replace rm2 := (rm2.below b13).more b13.size
          replace hB := below_trans hB (Nat.le_refl _) b13
          clear b13
          clear rm1
          clear rm2
          go_wp2_with fail
          refine (HPX.out w13 r2).mono ?_
          rintro e w14 ⟨rfl, b14⟩
          replace r1 := (r1.below b14).more b14.size
          replace r2 := (r2.below b14).more b14.size
          replace hB := below_trans hB (Nat.le_refl _) b14
          clear b14
          have hlen := HLEN.out
          go_wp2
          go_ret
          exact ⟨rfl, hB⟩
end Go.Proofs.Ytcaibhjdahmjeaa
