/- The program's Occupancy. -/
import Derived.Test.YtlnbpepeofceaaaProfJ
import Derived.Test.YtlnbpepeofceaaaOcc
namespace Go.Proofs.Ytlnbpepeofceaaa
open Go.RowKit
set_option linter.unusedVariables false
set_option linter.unusedSimpArgs false

set_option maxRecDepth 100000 in
set_option maxHeartbeats 2000000 in
theorem iOccupancy_c (A Am : Option Addr) (c cm : Nat) (l : List Cd) (n : Int) (m : List Int) (w : World) (hA : RdC w w.heap.size A l) (hM : RdI w w.heap.size Am m) (hl : l.length ≤ 1000000000) (hml : m.length ≤ 1000000000) :
    Calls Try.prog 25 #[.slice A l.length c, .int .i64 n, .slice Am m.length cm] w fun e w' => e = .returned (.int .i64 (occL l n m)) ∧ Below w.heap.size w w' := by
  go_enter Try.func25, Try.ntmps25
  go_wp2_with fail
  refine (runLock_c A Am c cm l n m _ hA hM hl hml).mono ?_
  rintro e w1 (⟨hok, hr⟩ | ⟨hok, rfl, hb1⟩)
  · obtain ⟨z, T, tc, U, uc, rfl, hzB, hzl, hzn, hS, hb1⟩ := hr
    have hbs : traceOf l n m = (lockS l n.toNat m).beats := by simp [traceOf, hok]
    have hin : ∀ q ∈ (lockS l n.toNat m).beats, q.1 < z.l.length ∧ q.2 < 256 := fun q hq => by
      have h1 := trace_in (l := l) (n := n) (m := m) q (by rw [hbs]; exact hq)
      simp only [lockOk, Bool.and_eq_true] at hok
      have h3 := inR_iff.1 hok.2.1
      have h4 : 2 ^ n.toNat ≤ 2 ^ 8 := Nat.pow_le_pow_right (by decide) (by omega)
      rw [hzl]
      exact ⟨h1.1, by have := h1.2.2; omega⟩
    have hlen := traceOf_len l n m
    have h' := hok
    simp only [lockOk, Bool.and_eq_true] at h'
    obtain ⟨k, rfl⟩ : ∃ k : Nat, n = (k : Int) := ⟨n.toNat, by have := (inR_iff.1 h'.2.1).1; omega⟩
    have hk1 : 1 ≤ k := by have := (inR_iff.1 h'.2.1).1; omega
    have hk8 : k ≤ 8 := by have := (inR_iff.1 h'.2.1).2; omega
    have HO := Lib.hid (show occL l k m = if (traceOf l k m).length = 0 then 100 else ((100 * actOf (traceOf l k m) / ((traceOf l k m).length * k) : Nat) : Int) by simp [occL, hok])
    have hact := actOf_le (traceOf l k m)
    rw [hbs] at hlen hact HO
    have hBz : z.B ≤ w1.heap.size := by rw [hzB]; exact hb1.size
    clear hok h'
    go_wp2_with fail
    refine (profile_c hS hin hlen (by rw [hzl]; exact hl) hBz).mono ?_
    rintro e w2 ⟨rfl, hb2⟩
    have hb3 := below_trans hb1 (Nat.le_refl _) hb2
    have hs3 := hb3.size
    clear hb1 hb2 hin hBz hS hbs
    unfold profCells
    generalize opsOf z.l 8 (lockS l (k : Int).toNat m).beats = o8 at *
    generalize opsOf z.l 9 (lockS l (k : Int).toNat m).beats = o9 at *
    generalize opsOf z.l 10 (lockS l (k : Int).toNat m).beats = o10 at *
    generalize actOf (lockS l (k : Int).toNat m).beats = a at *
    generalize (lockS l (k : Int).toNat m).beats.length = s at *
    by_cases h0 : s = 0
    · subst h0
      have HO2 := HO.out
      rw [if_pos rfl] at HO2
      go_wp2
      go_ret
      exact ⟨reti HO2.symm, hb3.alloc (by omega) _⟩
    · have HO2 := HO.out
      rw [if_neg h0] at HO2
      have hs0 : ((s : Int) == 0) = false := by rw [beq_eq_false_iff_ne]; omega
      have hD8 : s * k ≤ s * 8 := Nat.mul_le_mul_left _ hk8
      have hD1 : s * 1 ≤ s * k := Nat.mul_le_mul_left _ hk1
      have hmul : (s : Int) * (k : Int) = ((s * k : Nat) : Int) := by push_cast; rfl
      generalize s * k = D at *
      have hw : IntKind.i64.wrap ((s : Int) * (k : Int)) = (D : Int) := by rw [hmul]; exact IntWalk.i64_in _ (by omega)
      have hD0 : ((D : Int) == 0) = false := by rw [beq_eq_false_iff_ne]; omega
      have hDn : ¬ (D : Int) = 0 := by omega
      have hq : Int.tdiv (100 * (a : Int)) (D : Int) = ((100 * a / D : Nat) : Int) := by rw [Int.tdiv_eq_ediv_of_nonneg (by omega)]; push_cast; rfl
      have hqd : 100 * a / D ≤ 100 * a := Nat.div_le_self _ _
      have HQ := Lib.hid hq
      have HD := Lib.hid hD0
      have HMUL := Lib.hid hmul
      have HDB := Lib.hid (show 1 ≤ D ∧ D ≤ 20480 by omega)
      clear HO hD8 hD1 hq hqd
      go_wp2
      · exfalso
        have hwD : wrap64 (D : Int) = (D : Int) := by have := HDB.out; unfold wrap64; omega
        rename_i hx
        have hdb := HDB.out
        rw [hwD] at hx
        omega
      · go_ret
        refine ⟨reti ?_, hb3.alloc (by omega) _⟩
        have hwD : wrap64 (D : Int) = (D : Int) := by have := HDB.out; unfold wrap64; omega
        have hqd : 100 * a / D ≤ 100 * a := Nat.div_le_self _ _
        rw [HO2]
        show wrap64 ((100 * (a : Int)).tdiv (wrap64 (D : Int))) = _
        rw [hwD, HQ.out]
        generalize 100 * a / D = Q at *
        unfold wrap64
        omega
  · have HO := Lib.hid (show occL l n m = -1 by simp [occL, hok])
    clear hok
    go_wp2
    go_ret
    exact ⟨reti HO.out.symm, hb1⟩
end Go.Proofs.Ytlnbpepeofceaaa
