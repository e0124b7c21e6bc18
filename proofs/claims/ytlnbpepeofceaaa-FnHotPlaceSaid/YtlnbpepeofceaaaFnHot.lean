/- FnHotPlace: the walk of the law. -/
import Derived.Test.YtlnbpepeofceaaaRunD
import Derived.Test.YtlnbpepeofceaaaLock8
import Derived.Test.YtlnbpepeofceaaaILock8
import Derived.Test.YtlnbpepeofceaaaHotLaw
namespace Go.Proofs.Ytlnbpepeofceaaa
open Go.RowKit
set_option linter.unusedVariables false
set_option linter.unusedSimpArgs false

set_option maxRecDepth 100000 in
set_option maxHeartbeats 8000000 in
theorem fnHotPlace_c (w : World) (A : Option Addr) (c : Nat) (bs : List Int) (hA : Reads w w.heap.size 1 A bs.length (bs.map (.int .u8))) (hl : bs.length ≤ 9223372036854775807) (hb : ∀ x ∈ bs, 0 ≤ x ∧ x ≤ 255) (hcap : bs.length ≤ c) :
    Calls Try.prog 4 #[.slice A bs.length c] w fun e w' => e = .returned (.bool true) ∧ Below w.heap.size w w' := by
  by_cases hbig0 : 1048576 < bs.length
  · go_enter Try.func4, Try.ntmps4
    go_wp2
    go_ret
    exact ⟨rfl, Below.refl _ _⟩
  · go_enter Try.func4, Try.ntmps4
    go_wp2_with fail
    refine (drawHotPlace_c A c bs w hA hb hl hcap).mono ?_
    rintro e w1 ⟨l, A1, c1, n, m, Am, cm, rfl, hl2, hm40, hn9, r1, rM, hB⟩
    have hlaw := hot_law (l := l) (n := n) (m := m)
    have hCl := countsL_len l n m
    have HI := Lib.hid (fun W h h2 => iHotPlace_c A1 Am c1 cm l n m W h h2 (by omega) (by omega))
    have HS := Lib.hid (fun W h h2 => sHotPlace_c A1 Am c1 cm l n m W h h2 (by omega) (by omega))
    have HP := Lib.hid (fun W h h2 => iPlaceCounts_c A1 Am c1 cm l n m W h h2 (by omega) (by omega))
    generalize countsL l n m = C at *
    generalize hotI C = v at *
    have HL1 := Lib.hid hlaw.1
    have HL2 := Lib.hid hlaw.2
    clear hlaw
    go_wp2_with fail
    refine (HI.out w1 r1 rM).mono ?_
    rintro e w2 ⟨rfl, b2⟩
    replace r1 := (r1.below b2).more b2.size
    replace rM := (rM.below b2).more b2.size
    replace hB := below_trans hB (Nat.le_refl _) b2
    clear b2
    go_wp2_with fail
    refine (HS.out w2 r1 rM).mono ?_
    rintro e w3 ⟨rfl, b3⟩
    replace r1 := (r1.below b3).more b3.size
    replace rM := (rM.below b3).more b3.size
    replace hB := below_trans hB (Nat.le_refl _) b3
    clear b3
    have hne : (v != v) = false := by simp
    by_cases hv : v < 0
    · obtain ⟨rfl, h0⟩ := HL1.out hv
      by_cases hl0 : l.length = 0
      · have hlb : ((l.length : Int) == 0) = true := by rw [hl0]; rfl
        clear h0 HL1 HL2 hv
        go_wp2_with fail
        refine (alive_c _).mono ?_
        rintro e wz ⟨rfl, rfl⟩
        go_wp2
        go_ret
        exact ⟨rfl, hB⟩
      · have hok : lockOk l n m = false := by rcases h0 with h | h; exact absurd h hl0; exact h
        have hlb : ((l.length : Int) == 0) = false := beq_eq_false_iff_ne.2 (by omega)
        have HK := Lib.hid (fun W h h2 => runs_c A1 Am c1 cm l n m W h h2 (by omega) (by omega))
        rw [hok] at HK
        clear h0 HL1 HL2 hv hok
        go_wp2_with fail
        refine (HK.out w3 r1 rM).mono ?_
        rintro e w4 ⟨rfl, b4⟩
        replace r1 := (r1.below b4).more b4.size
        replace rM := (rM.below b4).more b4.size
        replace hB := below_trans hB (Nat.le_refl _) b4
        clear b4
        go_wp2_with fail
        refine (alive_c _).mono ?_
        rintro e wz ⟨rfl, rfl⟩
        go_wp2
        go_ret
        exact ⟨rfl, hB⟩
    · obtain ⟨k, rfl⟩ : ∃ k : Nat, v = (k : Int) := ⟨v.toNat, by omega⟩
      obtain ⟨k1, k2, k3, k4⟩ := HL2.out k rfl
      have HG1 := Lib.hid k3
      have HG2 := Lib.hid k4
      have hkl : (k : Int) < (l.length : Int) := by omega
      have hkC : (k : Int) < (C.length : Int) := by omega
      clear HL1 HL2 k3 k4 hv
      go_wp2_with fail
      refine (HP.out w3 r1 rM).mono ?_
      rintro e w5 ⟨A2, c2, rfl, o2, b5⟩
      replace r1 := (r1.below b5).more b5.size
      replace rM := (rM.below b5).more b5.size
      replace hB := below_trans hB (Nat.le_refl _) b5
      clear b5
      have r2 := OwI.rd o2
      clear o2 HI HS HP
      go_wp2
      go_loopw [8] (fun jv wr => ∃ j : Nat, j ≤ C.length ∧ jv = .int .i64 j ∧ Below w5.heap.size w5 wr) (fun jv _ => C.length - (intOf jv).toNat)
      case atStart => exact ⟨0, Nat.zero_le _, rfl, Below.refl _ _⟩
      case round =>
        obtain ⟨j, hj, rfl, hbj⟩ := hrel
        obtain ⟨ow, how⟩ : ∃ z, z = wr := ⟨wr, rfl⟩
        subst how
        by_cases hlt : j < C.length
        · have hjI : (j : Int) < (C.length : Int) := by omega
          replace r2 := (r2.below hbj).more hbj.size
          obtain ⟨pb, po, u, rfl, -, g1, d1⟩ := r2.at_ hlt
          obtain ⟨pb2, po2, u2, e2, -, g2, d2⟩ := r2.at_ k2
          injection e2 with e2
          injection e2 with e2 e3
          subst e2 e3
          rw [cN_get hlt] at g1
          rw [cN_get k2] at g2
          injection g1 with g1
          injection g2 with g2
          have h1 := HG1.out j hlt
          have h2 := HG2.out j
          rw [g1, g2] at h1 h2
          clear g1 g2 r2
          have hd1 : decide (u > u2) = false := decide_eq_false (by omega)
          by_cases hjk : j < k
          · have h3 := h2 hjk
            have hd2 : (u == u2) = false := beq_eq_false_iff_ne.2 (by omega)
            clear h2
            go_wp2
            go_quiet (fail)
            go_wp2
            go_roundw
            case rel => exact ⟨j + 1, by omega, by go_num, below_drewN hbj _⟩
            case measure => (simp [intOf] <;> omega)
          · have hd3 : decide ((j : Int) < (k : Int)) = false := decide_eq_false (by omega)
            clear h2
            by_cases hu : u = u2
            · subst hu
              have hd2 : (u == u) = true := by simp
              go_wp2
              go_quiet (fail)
              go_wp2
              go_roundw
              case rel => exact ⟨j + 1, by omega, by go_num, below_drewN hbj _⟩
              case measure => (simp [intOf] <;> omega)
            · have hd2 : (u == u2) = false := beq_eq_false_iff_ne.2 hu
              go_wp2
              go_quiet (fail)
              go_wp2
              go_roundw
              case rel => exact ⟨j + 1, by omega, by go_num, below_drewN hbj _⟩
              case measure => (simp [intOf] <;> omega)
        · obtain rfl : j = C.length := by omega
          clear hlt hj HG1 HG2
          replace r1 := (r1.below hbj).more hbj.size
          replace rM := (rM.below hbj).more hbj.size
          replace r2 := (r2.below hbj).more hbj.size
          replace hB := below_trans hB (Nat.le_refl _) hbj
          clear hbj
          go_wp2
          go_ret
          exact ⟨rfl, hB⟩
end Go.Proofs.Ytlnbpepeofceaaa
