/- FnDropWrites: the walk of the law. -/
import Derived.Test.YtoiihjbdcjllbaaRunD
import Derived.Test.YtoiihjbdcjllbaaWatch0
import Derived.Test.YtoiihjbdcjllbaaSame
import Derived.Test.YtoiihjbdcjllbaaLiveB
import Derived.Test.YtoiihjbdcjllbaaDeadLaw
import Derived.Test.YtoiihjbdcjllbaaWritesLaw
namespace Go.Proofs.Ytoiihjbdcjllbaa
open Go.RowKit
set_option linter.unusedVariables false
set_option linter.unusedSimpArgs false
theorem tree_nil : treeOf [] = .nil := by
  have h := (treeOf_spec (l := []) (by decide +kernel)).2
  cases e : treeOf [] with
  | nil => rfl
  | op x r => rw [e] at h; simp [Blk.flat] at h
  | iff a t r => rw [e] at h; simp [Blk.flat] at h
  | ife a t e' r => rw [e] at h; simp [Blk.flat] at h
  | loop a b t r => rw [e] at h; simp [Blk.flat] at h
theorem dropw_law (l : List Cd) (n : Int) (mem : List Int) : DW (accsOf l n mem) (accsOf (dropDeadL l) n mem) 0 0 ∧ (accsOf (dropDeadL l) n mem).length ≤ (accsOf l n mem).length := by
  cases hp : pv l with
  | false =>
    have e : dropDeadL l = [] := by simp [dropDeadL, hp]
    have e2 : accsOf [] n mem = [] := by
      unfold accsOf
      split
      · show ((treeOf []).run 0 (2 ^ n.toNat - 1) (LS.start n.toNat mem)).accs = []
        rw [tree_nil]; rfl
      · rfl
    have e3 : accsOf l n mem = [] := by simp [accsOf, lockOk, hp]
    rw [e, e2, e3]
    exact ⟨rfl, Nat.le_refl _⟩
  | true =>
    have hq := dropDeadL_ok hp
    cases hn : (inR n 1 8 && memOk mem) with
    | false =>
      have e3 : accsOf l n mem = [] := by simp [accsOf, lockOk, hn]
      have e4 : accsOf (dropDeadL l) n mem = [] := by simp [accsOf, lockOk, hn]
      rw [e3, e4]
      exact ⟨rfl, Nat.le_refl _⟩
    | true =>
      have hn2 := hn
      simp only [Bool.and_eq_true] at hn2
      have hin := inR_iff.1 hn2.1
      have K := dropDead_less hp (n := n.toNat) (by omega) hn2.2
      have e3 : accsOf l n mem = (lockS l n.toNat mem).accs := by simp [accsOf, lockOk, hp, hn]
      have e4 : accsOf (dropDeadL l) n mem = (lockS (dropDeadL l) n.toNat mem).accs := by simp [accsOf, lockOk, hq, hn]
      rw [e3, e4]
      exact ⟨DW.start K, K.al.length_le⟩
set_option maxRecDepth 100000 in
set_option maxHeartbeats 8000000 in
theorem fnDropWrites_c (w : World) (A : Option Addr) (c : Nat) (bs : List Int) (hA : Reads w w.heap.size 1 A bs.length (bs.map (.int .u8))) (hl : bs.length ≤ 9223372036854775807) (hb : ∀ x ∈ bs, 0 ≤ x ∧ x ≤ 255) (hcap : bs.length ≤ c) :
    Calls Try.prog 8 #[.slice A bs.length c] w fun e w' => e = .returned (.bool true) ∧ Below w.heap.size w w' := by
  by_cases hbig0 : 1048576 < bs.length
  · go_enter Try.func8, Try.ntmps8
    go_wp2
    go_ret
    exact ⟨rfl, Below.refl _ _⟩
  · go_enter Try.func8, Try.ntmps8
    go_wp2_with fail
    refine (drawLockAccesses2_c A c bs w hA hb hl hcap).mono ?_
    rintro e w1 ⟨l, A1, c1, n, mem, Ar, cr, rfl, hl2, hm40, hn9, hcn, hcl, r1, rM, hB⟩
    have hal := accsOf_len l n mem
    have HSA := Lib.hid (fun W a b => sLockAccesses_c A1 Ar c1 cr l n mem W a b (by omega) (by omega))
    go_wp2_with fail
    refine (iLockAccesses_c A1 Ar c1 cr l n mem w1 r1 rM (by omega) (by omega)).mono ?_
    rintro e w2 ⟨U1, u1, rfl, q1, b2⟩
    replace r1 := (r1.below b2).more b2.size
    replace rM := (rM.below b2).more b2.size
    replace hB := below_trans hB (Nat.le_refl _) b2
    clear b2
    generalize hqs : accsOf l n mem = qs at *
    go_wp2_with fail
    refine (HSA.out w2 r1 rM).mono ?_
    rintro e w3 ⟨U2, u2, rfl, q2, b3⟩
    replace r1 := (r1.below b3).more b3.size
    replace rM := (rM.below b3).more b3.size
    replace q1 := (q1.below b3).more b3.size
    replace hB := below_trans hB (Nat.le_refl _) b3
    clear b3
    clear HSA
    go_wp2_with fail
    refine (sameAccesses_c U1 U2 u1 u2 qs w3 q1 q2 (by omega)).mono ?_
    rintro e w4 ⟨rfl, b4⟩
    replace r1 := (r1.below b4).more b4.size
    replace rM := (rM.below b4).more b4.size
    replace q1 := (q1.below b4).more b4.size
    replace q2 := (q2.below b4).more b4.size
    replace hB := below_trans hB (Nat.le_refl _) b4
    clear b4
    clear q2
    have HI := Lib.hid (fun W a => iDropDead_c A1 c1 l W a (by omega) hcn)
    have hlx : (dropDeadL l).length ≤ 40 := dropDeadL_len l
    have hDW := dropw_law l n mem
    rw [hqs] at hDW
    generalize dropDeadL l = x at *
    have hxl := accsOf_len x n mem
    go_wp2_with fail
    refine (HI.out w4 r1).mono ?_
    rintro e w5 ⟨A2, c2, rfl, o2, b5⟩
    replace r1 := (r1.below b5).more b5.size
    replace rM := (rM.below b5).more b5.size
    replace q1 := (q1.below b5).more b5.size
    replace hB := below_trans hB (Nat.le_refl _) b5
    clear b5
    have r2 := OwC.rd o2
    clear o2 HI hcn hcl
    go_wp2_with fail
    refine (iLockAccesses_c A2 Ar c2 cr x n mem w5 r2 rM (by omega) (by omega)).mono ?_
    rintro e w6 ⟨U3, u3, rfl, q3, b6⟩
    replace r1 := (r1.below b6).more b6.size
    replace rM := (rM.below b6).more b6.size
    replace q1 := (q1.below b6).more b6.size
    replace r2 := (r2.below b6).more b6.size
    replace hB := below_trans hB (Nat.le_refl _) b6
    clear b6
    clear r1
    clear r2
    clear rM
    generalize accsOf x n mem = ls at *
    obtain ⟨hdw, hll⟩ := hDW
    have HDW := Lib.hid hdw
    have hllI : (ls.length : Int) ≤ (qs.length : Int) := by omega
    clear hdw hqs
    go_wp2
    go_loopw [8, 9] (fun av kv wr => ∃ j k : Nat, k ≤ qs.length ∧ j ≤ ls.length ∧ kv = .int .i64 k ∧ av = .int .i64 j ∧ Below w6.heap.size w6 wr ∧ Hid (DW qs ls k j)) (fun _ kv _ => qs.length - (intOf kv).toNat)
    case atStart => exact ⟨0, 0, Nat.zero_le _, Nat.zero_le _, rfl, rfl, Below.refl _ _, HDW⟩
    case round =>
      clear HDW
      obtain ⟨j, k, hk, hj, rfl, rfl, hbk, hd⟩ := hrel
      obtain ⟨ow, how⟩ : ∃ z, z = wr := ⟨wr, rfl⟩
      subst how
      by_cases hlt : k < qs.length
      · have hkI : (k : Int) < (qs.length : Int) := by omega
        have q1' := (q1.below hbk).more hbk.size
        have q3' := (q3.below hbk).more hbk.size
        obtain ⟨kb, ko, x1, rfl, hkB, hx1, c0, c1', c2', c3⟩ := q1'.at_ hlt
        obtain ⟨xw, hxw⟩ : ∃ z, x1.wr = z := ⟨_, rfl⟩
        cases xw with
        | false =>
          rw [hxw] at c2'
          have HD2 := Lib.hid (hd.out.skip hx1 hxw)
          clear hx1 hxw
          go_wp2
          go_roundw
          case rel => exact ⟨j, k + 1, by omega, hj, by go_num, rfl, hbk, HD2⟩
          case measure => (simp [intOf] <;> omega)
        | true =>
          have HX1 := Lib.hid hx1
          have HXW := Lib.hid hxw
          rw [hxw] at c2'
          have hjl := hd.out.some_ hx1 hxw
          clear hx1 hxw hjl
          go_wp2
          go_loopw [8] (fun av wi => ∃ i : Nat, i ≤ ls.length ∧ av = .int .i64 i ∧ Below ow.heap.size ow wi ∧ Hid (DW qs ls k i)) (fun av _ => ls.length - (intOf av).toNat)
          case atStart => exact ⟨j, hj, rfl, Below.refl _ _, hd⟩
          case round =>
            clear hd
            obtain ⟨i, hi, rfl, hbi, hd⟩ := hrel
            have hil := hd.out.some_ HX1.out HXW.out
            have hiI : (i : Int) < (ls.length : Int) := by omega
            obtain ⟨yb, yo, y, rfl, hyB, hy, e0, e1, e2, e3⟩ := (q3'.below hbi).at_ hil
            have hb9 := below_trans hbk (Nat.le_refl _) hbi
            obtain ⟨yw, hyw⟩ : ∃ z, y.wr = z := ⟨_, rfl⟩
            cases yw with
            | false =>
              rw [hyw] at e2
              have HD2 := Lib.hid (hd.out.pass hy hyw)
              clear hy hyw
              go_wp2
              go_roundw
              case rel => exact ⟨i + 1, by omega, by go_num, hbi, HD2⟩
              case measure => (simp [intOf] <;> omega)
            | true =>
              obtain ⟨rfl, hd2⟩ := hd.out.hit HX1.out HXW.out hy hyw
              have HD2 := Lib.hid hd2
              have g0 := cell_kept hbi c0
              have g1 := cell_kept hbi c1'
              have g2 := cell_kept hbi c2'
              have g3 := cell_kept hbi c3
              rw [hyw] at e2
              clear hy hyw hd2 c0 c1' c2' c3
              go_wp2_with fail
              go_quiet (fail)
              go_wp2
              go_roundw
              case rel => exact ⟨i + 1, k + 1, by omega, by omega, by go_num, by go_num, hb9.trans ⟨rfl, rfl, rfl, Nat.le_refl _, fun _ _ => rfl⟩, HD2⟩
              case measure => (simp [intOf] <;> omega)
      · obtain rfl : k = qs.length := by omega
        clear hk hlt hd
        replace q1 := (q1.below hbk).more hbk.size
        replace q3 := (q3.below hbk).more hbk.size
        replace hB := below_trans hB (Nat.le_refl _) hbk
        clear hbk
        go_wp2_with fail
        refine (alive_c _).mono ?_
        rintro e wz ⟨rfl, rfl⟩
        go_wp2
        go_ret
        exact ⟨rfl, hB⟩
end Go.Proofs.Ytoiihjbdcjllbaa
