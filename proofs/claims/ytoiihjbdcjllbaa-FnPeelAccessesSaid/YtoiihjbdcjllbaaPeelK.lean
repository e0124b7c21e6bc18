/- PeelSome of both. -/
import Derived.Test.YtoiihjbdcjllbaaPeelJ
namespace Go.Proofs.Ytoiihjbdcjllbaa
open Go.RowKit
set_option linter.unusedVariables false
set_option linter.unusedSimpArgs false

theorem peelN_stop {x : List Cd} (h : peelPl x x.length = []) : ∀ t, peelN x t = x
  | 0 => rfl
  | t + 1 => by simp only [peelN, h]
theorem peelN_go {x : List Cd} {a : Int} {r : List Int} (h : peelPl x x.length = a :: r) (t : Nat) : peelN x (t + 1) = peelN (peelR x a) t := by simp only [peelN, h]
theorem peelN_ok : ∀ (t : Nat) (x : List Cd), pv x = true → pv (peelN x t) = true
  | 0, x, h => h
  | t + 1, x, h => by
    unfold peelN
    split
    · exact h
    · exact peelN_ok t _ (peelR_ok h)
theorem peelSomeL_len (l : List Cd) (t : Int) : (peelSomeL l t).length ≤ 40 := by
  unfold peelSomeL
  split
  · rename_i h
    exact (pv_iff.1 (peelN_ok _ l (by simp at h; exact h.1))).1
  · simp

def PSRel (w : World) (L : List Cd) (t : Nat) (xv iv : Value) (wr : World) : Prop :=
  ∃ (k : Nat) (A : Option Addr) (c : Nat) (x : List Cd), k ≤ t ∧ iv = .int .i64 k ∧ xv = .slice A x.length c ∧ OC wr w.heap.size A x.length c x ∧ pv x = true ∧ Hid (peelN x (t - k) = L) ∧ Below w.heap.size w wr

set_option maxRecDepth 100000 in
set_option maxHeartbeats 4000000 in
theorem iPeelSome_c (A : Option Addr) (c : Nat) (l : List Cd) (t : Int) (w : World) (hA : RdC w w.heap.size A l) (hl : l.length ≤ 1000000000) (hc : A = none → c = 0) (hcap : l.length ≤ c) :
    Calls Try.prog 32 #[.slice A l.length c, .int .i64 t] w (RetC w (peelSomeL l t)) := by
  cases hp : pv l with
  | false =>
    have h1 := Lib.hid (show peelSomeL l t = [] by simp [peelSomeL, hp])
    go_enter Try.func32, Try.ntmps32
    go_wp2_with fail
    refine (iProgramValid_c A c l w hA hl).mono ?_
    rintro e w1 ⟨rfl, hb1⟩
    rw [hp]
    go_wp2
    go_ret
    rw [h1.out]
    exact RetC.of (OC.nil_ w1 _) hb1
  | true =>
    cases hin : inR t 0 40 with
    | false =>
      have h1 := Lib.hid (show peelSomeL l t = [] by simp [peelSomeL, hin])
      go_enter Try.func32, Try.ntmps32
      go_wp2_with fail
      refine (iProgramValid_c A c l w hA hl).mono ?_
      rintro e w1 ⟨rfl, hb1⟩
      rw [hp]
      go_wp2_with fail
      refine (within_c t 0 40 w1).mono ?_
      rintro e w4 ⟨rfl, rfl⟩
      rw [hin]
      go_wp2
      go_ret
      rw [h1.out]
      exact RetC.of (OC.nil_ w1 _) hb1
    | true =>
      obtain ⟨n, rfl⟩ : ∃ n : Nat, t = (n : Int) := ⟨t.toNat, by have := (inR_iff.1 hin).1; omega⟩
      have hn : n ≤ 40 := by have := (inR_iff.1 hin).2; omega
      have h1 := Lib.hid (show peelN l (n - 0) = peelSomeL l n by simp [peelSomeL, hp, hin])
      have HP := Lib.hid hp
      have h40 := (pv_iff.1 hp).1
      generalize peelSomeL l n = L at *
      go_enter Try.func32, Try.ntmps32
      go_wp2_with fail
      refine (iProgramValid_c A c l w hA hl).mono ?_
      rintro e w1 ⟨rfl, hb1⟩
      rw [hp]
      go_wp2_with fail
      refine (within_c n 0 40 w1).mono ?_
      rintro e w4 ⟨rfl, rfl⟩
      rw [hin]
      clear hin hp
      go_wp2_with fail
      refine (cloneC_c A c l w1 ((hA.below hb1).more hb1.size) hl hc).mono ?_
      rintro e w3 ⟨A', c', rfl, ho3, hb3⟩
      replace hb3 := below_trans hb1 (Nat.le_refl _) hb3
      replace ho3 : OC w3 w.heap.size A' l.length c' l := OR.mono ho3 hb1.size
      go_wp2
      go_loopw [5, 18] (fun xv iv wr => PSRel w L n xv iv wr) (fun _ i _ => n - (intOf i).toNat)
      case atStart => exact ⟨0, A', c', l, Nat.zero_le _, rfl, rfl, ho3, HP.out, h1, hb3⟩
      case round =>
        clear ho3 hb3
        obtain ⟨k, A1, c1, x, hk, rfl, rfl, ho, hpx, HE, hb⟩ := hrel
        have hx40 := (pv_iff.1 hpx).1
        have HPX := Lib.hid hpx
        clear hpx
        by_cases hlt : k < n
        · go_wp2_with fail
          refine (ipeelPlaces_c A1 c1 x wr (OC.rd ho) HPX.out (OR.cap_ ho)).mono ?_
          rintro e w5 ⟨A5, c5, rfl, ho5, hb5⟩
          have ho5' := OR.below ho hb5 (Nat.le_refl _)
          have hb6 := below_trans hb (Nat.le_refl _) hb5
          have hPL : peelPl x x.length = peelPl x x.length := rfl
          generalize hPL' : peelPl x x.length = PL at hPL ho5
          clear hPL
          cases PL with
          | nil =>
            have HS := Lib.hid (peelN_stop hPL' (n - k))
            clear hPL'
            go_wp2
            go_ret
            rw [← HE.out, HS.out]
            exact RetC.of ho5' hb6
          | cons a r =>
            have HS := Lib.hid (peelN_go hPL' (n - k - 1))
            have ea : n - k - 1 + 1 = n - k := by omega
            rw [ea] at HS
            have c0 := (OwI.rd ho5).at_ (k := 0) (by simp)
            obtain ⟨b, off, y, rfl, _, hy, c0⟩ := c0
            have hya : y = a := by simpa using hy.symm
            subst hya
            have hmem := peelPl_mem (l := x) (n := x.length) (a := y) (by rw [hPL']; simp)
            have hne : (((y :: r).length : Int) == 0) = false := by rw [beq_eq_false_iff_ne]; simp <;> omega
            have hok : peelOk x y = true := by have := hmem.2.2; simp [peelB] at this; exact this.2
            have HR := Lib.hid (show peelR x y = peelOut x y.toNat by simp [peelR, HPX.out, hok])
            have HOK := Lib.hid hok
            clear hPL' hy hmem hok
            try simp only [Nat.add_zero] at c0
            have hlp : (0 : Int) < ((y :: r).length : Int) := by simp <;> omega
            generalize (y :: r).length = len at *
            go_wp2_with fail
            refine (ipeel_c A1 c1 x y w5 (OC.rd ho5') HPX.out (OR.cap_ ho5')).mono ?_
            rintro e w6 (⟨_, A6, c6, rfl, ho6, hb7⟩ | ⟨hno, _⟩)
            case inr => rw [HOK.out] at hno; cases hno
            have hb8 := below_trans hb6 (Nat.le_refl _) hb7
            rw [← HR.out] at ho6 ⊢
            go_wp2
            go_roundw
            case rel =>
              refine ⟨k + 1, A6, c6, peelR x y, by omega, by go_num, rfl, OR.mono ho6 hb6.size, peelR_ok HPX.out, Lib.hid ?_, hb8⟩
              rw [← HE.out, HS.out, show n - (k + 1) = n - k - 1 by omega]
            case measure => simp [intOf]; omega
        · obtain rfl : k = n := by omega
          go_wp2
          go_ret
          rw [← HE.out, Nat.sub_self]
          exact RetC.of ho hb
end Go.Proofs.Ytoiihjbdcjllbaa
