/- The program's CodeValid. -/
import Derived.Test.YtcpjhlkcfohkiaaHelp2
namespace Go.Proofs.Ytcpjhlkcfohkiaa
open Go.RowKit
set_option linter.unusedVariables false
set_option linter.unusedSimpArgs false

def chk (o : Int) (i : Nat) (n : Int) : Bool :=
  if (i : Int) < regsN o then inR n 0 3 else if i == 1 && o == 1 then inR n 0 255 else if i == 1 && o == 13 then inR n 1 4 else n == 0

theorem chk_all (x : Cd) : (chk x.op 0 x.a && (chk x.op 1 x.b && (chk x.op 2 x.c && inR x.op 1 14))) = cvOk x := by
  rcases x with ⟨o, a, b, c⟩
  simp only
  by_cases h : 1 ≤ o ∧ o ≤ 14
  · obtain ⟨h1, h2⟩ := h
    have : o = 1 ∨ o = 2 ∨ o = 3 ∨ o = 4 ∨ o = 5 ∨ o = 6 ∨ o = 7 ∨ o = 8 ∨ o = 9 ∨ o = 10 ∨ o = 11 ∨ o = 12 ∨ o = 13 ∨ o = 14 := by omega
    rcases this with rfl | rfl | rfl | rfl | rfl | rfl | rfl | rfl | rfl | rfl | rfl | rfl | rfl | rfl <;> simp [chk, regsN, cvOk, inR, Bool.and_assoc]
  · have e : ∀ k : Int, 1 ≤ k → k ≤ 14 → (o == k) = false := fun k a b => by rw [beq_eq_false_iff_ne]; omega
    have e2 : inR o 1 14 = false := by rw [inR_not]; omega
    simp [chk, regsN, cvOk, e, e2]

def numAt (a b c : Int) (k : Nat) : Int := if k = 0 then a else if k = 1 then b else c

set_option maxRecDepth 100000 in
set_option maxHeartbeats 2000000 in
theorem iCodeValid_c (x : Cd) (w : World) :
    Calls Try.prog 94 #[x.val] w fun e w' => e = .returned (.bool (cvOk x)) ∧ Below w.heap.size w w' := by
  have HC := Lib.hid (chk_all x)
  obtain ⟨o, a, b, c⟩ := x
  unfold Cd.val
  go_enter Try.func94, Try.ntmps94
  go_wp2
  have hb0 : Below w.heap.size w ((w.alloc (.cells #[.int .i64 o, .int .i64 a, .int .i64 b, .int .i64 c] 45)).alloc (.cells #[.int .i64 a, .int .i64 b, .int .i64 c] 3)) := (by repeat (first | exact Below.refl _ _ | assumption | refine Below.alloc ?_ (by simp <;> omega) _ | refine Below.setCell ?_ (by simp <;> omega) _ | refine Below.drew ?_))
  have hop : ((w.alloc (.cells #[.int .i64 o, .int .i64 a, .int .i64 b, .int .i64 c] 45)).alloc (.cells #[.int .i64 a, .int .i64 b, .int .i64 c] 3)).cell? ⟨w.heap.size, 0, none⟩ = some (.int .i64 o) := by simp [go_sem]
  have hn : ∀ k, k < 3 → ((w.alloc (.cells #[.int .i64 o, .int .i64 a, .int .i64 b, .int .i64 c] 45)).alloc (.cells #[.int .i64 a, .int .i64 b, .int .i64 c] 3)).cell? ⟨w.heap.size + 1, k, none⟩ = some (.int .i64 (numAt a b c k)) := by
    intro k hk
    have : k = 0 ∨ k = 1 ∨ k = 2 := by omega
    rcases this with rfl | rfl | rfl <;> simp [go_sem, numAt]
  generalize (w.alloc (.cells #[.int .i64 o, .int .i64 a, .int .i64 b, .int .i64 c] 45)).alloc (.cells #[.int .i64 a, .int .i64 b, .int .i64 c] 3) = w1 at *
  have HN := Lib.hid hn
  clear hn
  go_loop [15] (fun i => ∃ k : Nat, k ≤ 3 ∧ i = .int .i64 k ∧ Hid (∀ j, j < k → chk o j (numAt a b c j) = true)) (fun i => 3 - (intOf i).toNat)
  case atStart => exact ⟨0, by omega, rfl, fun j hj => by omega⟩
  case round =>
    obtain ⟨k, hk, rfl, HP⟩ := hrel
    by_cases hlt : k < 3
    · have h3 : k = 0 ∨ k = 1 ∨ k = 2 := by omega
      clear hk hlt
      rcases h3 with rfl | rfl | rfl
      case inl =>
        have hc := HN.out 0 (by omega)
        have hz : numAt a b c 0 = a := rfl
        rw [hz] at hc
        have HZ := Lib.hid hz
        clear hz
        go_wp2_with (first | (go_at_call 109; refine (registers_c _ _).mono ?_; rintro e w' ⟨rfl, rfl⟩) | (go_at_call 84; refine (isReg_c _ _).mono ?_; rintro e w' ⟨rfl, rfl⟩) | (go_at_call 117; refine (isWord_c _ _).mono ?_; rintro e w' ⟨rfl, rfl⟩) | (go_at_call 77; refine (within_c _ _ _ _).mono ?_; rintro e w' ⟨rfl, rfl⟩))
        all_goals
          first
            | (go_ret
               have hf : chk o 0 a = false := by (unfold chk; first | (rw [if_pos (by omega)]; simp_all; done) | (rw [if_neg (by omega)]; simp_all; done))
               have hx := HC.out
               simp only [hf] at hx
               exact ⟨retb (by simpa using hx), hb0⟩)
            | (have hf : chk o 0 a = true := by (unfold chk; first | (rw [if_pos (by omega)]; simp_all; done) | (rw [if_neg (by omega)]; simp_all; done))
               go_round
               case rel => exact ⟨1, by omega, by go_num, fun j hj => by obtain rfl : j = 0 := (by omega); rw [HZ.out]; exact hf⟩
               case measure => simp [intOf])
      case inr.inl =>
        have hc := HN.out 1 (by omega)
        have hz : numAt a b c 1 = b := rfl
        rw [hz] at hc
        have HZ := Lib.hid hz
        clear hz
        go_wp2_with (first | (go_at_call 109; refine (registers_c _ _).mono ?_; rintro e w' ⟨rfl, rfl⟩) | (go_at_call 84; refine (isReg_c _ _).mono ?_; rintro e w' ⟨rfl, rfl⟩) | (go_at_call 117; refine (isWord_c _ _).mono ?_; rintro e w' ⟨rfl, rfl⟩) | (go_at_call 77; refine (within_c _ _ _ _).mono ?_; rintro e w' ⟨rfl, rfl⟩))
        all_goals
          first
            | (go_ret
               have hf : chk o 1 b = false := by (unfold chk; first | (rw [if_pos (by omega)]; simp_all; done) | (rw [if_neg (by omega)]; simp_all; done))
               have hx := HC.out
               simp only [hf] at hx
               exact ⟨retb (by simpa using hx), hb0⟩)
            | (have hf : chk o 1 b = true := by (unfold chk; first | (rw [if_pos (by omega)]; simp_all; done) | (rw [if_neg (by omega)]; simp_all; done))
               go_round
               case rel => exact ⟨2, by omega, by go_num, fun j hj => by
                 by_cases hj0 : j = 0
                 · subst hj0; exact HP.out 0 (by omega)
                 · obtain rfl : j = 1 := by omega
                   rw [HZ.out]; exact hf⟩
               case measure => simp [intOf])
      case inr.inr =>
        have hc := HN.out 2 (by omega)
        have hz : numAt a b c 2 = c := rfl
        rw [hz] at hc
        have HZ := Lib.hid hz
        clear hz
        go_wp2_with (first | (go_at_call 109; refine (registers_c _ _).mono ?_; rintro e w' ⟨rfl, rfl⟩) | (go_at_call 84; refine (isReg_c _ _).mono ?_; rintro e w' ⟨rfl, rfl⟩) | (go_at_call 117; refine (isWord_c _ _).mono ?_; rintro e w' ⟨rfl, rfl⟩) | (go_at_call 77; refine (within_c _ _ _ _).mono ?_; rintro e w' ⟨rfl, rfl⟩))
        all_goals
          first
            | (go_ret
               have hf : chk o 2 c = false := by (unfold chk; first | (rw [if_pos (by omega)]; simp_all; done) | (rw [if_neg (by omega)]; simp_all; done))
               have hx := HC.out
               simp only [hf] at hx
               exact ⟨retb (by simpa using hx), hb0⟩)
            | (have hf : chk o 2 c = true := by (unfold chk; first | (rw [if_pos (by omega)]; simp_all; done) | (rw [if_neg (by omega)]; simp_all; done))
               go_round
               case rel => exact ⟨3, by omega, by go_num, fun j hj => by
                 by_cases hj0 : j = 2
                 · subst hj0
                   rw [HZ.out]; exact hf
                 · exact HP.out j (by omega)⟩
               case measure => simp [intOf])
    · obtain rfl : k = 3 := by omega
      go_wp2_with (go_at_call 77; refine (within_c _ _ _ _).mono ?_; rintro e w' ⟨rfl, rfl⟩)
      go_ret
      have h0 := HP.out 0 (by omega)
      have h1 := HP.out 1 (by omega)
      have h2 := HP.out 2 (by omega)
      have hx := HC.out
      simp [numAt] at h0 h1 h2
      simp only [h0, h1, h2, Bool.true_and] at hx
      exact ⟨retb hx, hb0⟩
end Go.Proofs.Ytcpjhlkcfohkiaa
