/- The reference's places of ends and openings. -/
import Derived.Test.YtfgbbajkdpideaaMem2
import Derived.Test.YtfgbbajkdpideaaSyn
namespace Go.Proofs.Ytfgbbajkdpideaa
open Go.RowKit
set_option linter.unusedVariables false
set_option linter.unusedSimpArgs false

theorem l4Opens_c (x : Cd) (w : World) :
    Calls Try.prog 40 #[x.val] w fun e w' => e = .returned (.bool (opB x)) ∧ Below w.heap.size w w' := by
  obtain ⟨o, a, b, c⟩ := x
  unfold Cd.val
  go_enter Try.func40, Try.ntmps40
  go_wp2
  all_goals go_ret
  all_goals refine ⟨retb ?_, (by repeat (first | exact Below.refl _ _ | assumption | refine Below.alloc ?_ (by simp <;> omega) _ | refine Below.setCell ?_ (by simp <;> omega) _ | refine Below.drew ?_))⟩
  all_goals (simp_all [opB])

theorem scanE_step {l : List Cd} {k : Nat} {x : Cd} (hx : l[k]? = some x) (d : Nat) (o : Int) : scanE (l.drop k) k d o =
    if opB x then scanE (l.drop (k + 1)) (k + 1) (d + 1) o
    else if x.op == 12 && d == 0 then scanE (l.drop (k + 1)) (k + 1) d k
    else if x.op == 14 && d == 0 then ((k : Int), o)
    else if x.op == 14 then scanE (l.drop (k + 1)) (k + 1) (d - 1) o
    else scanE (l.drop (k + 1)) (k + 1) d o := by
  rw [drop_get hx, scanE]

theorem pairEq {a b c d : Int} (h : (a, b) = (c, d)) : a = c ∧ b = d := by
  injection h with h1 h2
  exact ⟨h1, h2⟩

def E4Rel (w : World) (l : List Cd) (n : Nat) (kv dv ov : Value) (wr : World) : Prop :=
  ∃ (k d : Nat) (o : Int), k ≤ l.length ∧ kv = .int .i64 k ∧ dv = .int .i64 d ∧ ov = .int .i64 o ∧ d ≤ k ∧ Hid (endOf l n = scanE (l.drop k) k d o) ∧ Below w.heap.size w wr

set_option maxRecDepth 100000 in
set_option maxHeartbeats 4000000 in
theorem l4End_c (A : Option Addr) (c : Nat) (l : List Cd) (n : Nat) (w : World) (hA : RdC w w.heap.size A l) (hl : l.length ≤ 1000000000) (hn : n < l.length) :
    Calls Try.prog 71 #[.slice A l.length c, .int .i64 n] w fun e w' => e = .returned (.tuple #[.int .i64 (endOf l n).1, .int .i64 (endOf l n).2]) ∧ Below w.heap.size w w' := by
  go_enter Try.func71, Try.ntmps71
  go_wp2
  go_loopw [8, 6, 7] (fun kv dv ov wr => E4Rel w l n kv dv ov wr) (fun kv _ _ _ => l.length - (intOf kv).toNat)
  case atStart => exact ⟨n + 1, 0, -1, by omega, by go_num, rfl, rfl, by omega, rfl, Below.refl _ _⟩
  case round =>
    obtain ⟨k, d, o, hk, rfl, rfl, rfl, hd, HE, hb⟩ := hrel
    by_cases hlt : k < l.length
    · obtain ⟨b, off, x, rfl, hbB, hx, c0, c1, c2, c3⟩ := (hA.below hb).at_ hlt
      have HS := Lib.hid (scanE_step hx d o)
      have HX := Lib.hid hx
      clear hx
      go_wp2_with fail
      refine (l4Opens_c x _).mono ?_
      rintro e w1 ⟨rfl, hb1⟩
      replace c0 := cell_kept hb1 c0
      have hb2 := below_trans hb (Nat.le_refl _) hb1
      clear c1 c2 c3
      cases hop : opB x with
      | true =>
        have HO := Lib.hid hop
        clear hop
        go_wp2
        go_roundw
        case rel => exact ⟨k + 1, d + 1, o, by omega, by go_num, by go_num, rfl, by omega, Lib.hid (by rw [HE.out, HS.out, HO.out]; rfl), hb2⟩
        case measure => simp [intOf]; omega
      | false =>
        have HO := Lib.hid hop
        clear hop
        cases e12 : x.op == 12 with
        | true =>
          have h12 : x.op = 12 := beq_iff_eq.1 e12
          have e14 : (x.op == 14) = false := by rw [h12]; rfl
          have H12 := Lib.hid e12
          have H14 := Lib.hid e14
          clear h12
          by_cases hd0 : d = 0
          · subst hd0
            go_wp2
            go_roundw
            case rel => exact ⟨k + 1, 0, k, by omega, by go_num, rfl, rfl, by omega, Lib.hid (by rw [HE.out, HS.out, HO.out, H12.out]; rfl), hb2⟩
            case measure => simp [intOf]; omega
          · have ed : ((d : Int) == 0) = false := by rw [beq_eq_false_iff_ne]; omega
            have HD := Lib.hid (show (d == 0) = false by rw [beq_eq_false_iff_ne]; exact hd0)
            go_wp2
            go_roundw
            case rel => exact ⟨k + 1, d, o, by omega, by go_num, rfl, rfl, by omega, Lib.hid (by rw [HE.out, HS.out, HO.out, H12.out, HD.out, H14.out]; rfl), hb2⟩
            case measure => simp [intOf]; omega
        | false =>
          have H12 := Lib.hid e12
          cases e14 : x.op == 14 with
          | true =>
            have H14 := Lib.hid e14
            by_cases hd0 : d = 0
            · subst hd0
              go_wp2
              go_ret2
              have hf : endOf l n = ((k : Int), o) := by rw [HE.out, HS.out, HO.out, H12.out, H14.out]; rfl
              rw [hf]
              exact ⟨rfl, hb2⟩
            · have ed : ((d : Int) == 0) = false := by rw [beq_eq_false_iff_ne]; omega
              have HD := Lib.hid (show (d == 0) = false by rw [beq_eq_false_iff_ne]; exact hd0)
              go_wp2
              go_roundw
              case rel => exact ⟨k + 1, d - 1, o, by omega, by go_num, by (congr 1; first | done | omega), rfl, by omega, Lib.hid (by rw [HE.out, HS.out, HO.out, H12.out, H14.out, HD.out]; rfl), hb2⟩
              case measure => simp [intOf]; omega
          | false =>
            have H14 := Lib.hid e14
            go_wp2
            go_roundw
            case rel => exact ⟨k + 1, d, o, by omega, by go_num, rfl, rfl, by omega, Lib.hid (by rw [HE.out, HS.out, HO.out, H12.out, H14.out]; rfl), hb2⟩
            case measure => simp [intOf]; omega
    · obtain rfl : k = l.length := by omega
      go_wp2
      go_ret2
      have hf : endOf l n = (-1, o) := by rw [HE.out, List.drop_length]; rfl
      rw [hf]
      exact ⟨rfl, hb⟩

def A4Rel (w : World) (l : List Cd) (n : Nat) (kv dv : Value) (wr : World) : Prop :=
  ∃ (k d : Nat), k ≤ n ∧ kv = .int .i64 ((k : Int) - 1) ∧ dv = .int .i64 d ∧ d + k ≤ n ∧ Hid (aroundOf l n = scanA l k d) ∧ Below w.heap.size w wr

set_option maxRecDepth 100000 in
set_option maxHeartbeats 4000000 in
theorem l4Around_c (A : Option Addr) (c : Nat) (l : List Cd) (n : Nat) (w : World) (hA : RdC w w.heap.size A l) (hl : l.length ≤ 1000000000) (hn : n ≤ l.length) :
    Calls Try.prog 23 #[.slice A l.length c, .int .i64 n] w fun e w' => e = .returned (.int .i64 (aroundOf l n)) ∧ Below w.heap.size w w' := by
  go_enter Try.func23, Try.ntmps23
  go_wp2
  go_loopw [6, 5] (fun kv dv wr => A4Rel w l n kv dv wr) (fun kv _ _ => (intOf kv + 1).toNat)
  case atStart => exact ⟨n, 0, Nat.le_refl _, rfl, rfl, by omega, rfl, Below.refl _ _⟩
  case round =>
    obtain ⟨k, d, hk, rfl, rfl, hd, HE, hb⟩ := hrel
    cases k with
    | zero =>
      have h0 : ¬ (0 : Int) ≤ ((0 : Nat) : Int) - 1 := by omega
      go_wp2
      go_ret
      exact ⟨reti (by rw [HE.out]; simp [scanA]), hb⟩
    | succ k =>
      have hlt : k < l.length := by omega
      obtain ⟨b, off, x, rfl, hbB, hx, c0, c1, c2, c3⟩ := (hA.below hb).at_ hlt
      have ek : ((k + 1 : Nat) : Int) - 1 = (k : Int) := by omega
      rw [ek]
      have HS := Lib.hid (scanA_step l k d x hx)
      clear hx ek
      cases e14 : x.op == 14 with
      | true =>
        have hop : opB x = false := by have := beq_iff_eq.1 e14; simp [opB, this]
        have HO := Lib.hid hop
        have H14 := Lib.hid e14
        go_wp2_with fail
        refine (l4Opens_c x _).mono ?_
        rintro e w1 ⟨rfl, hb1⟩
        have hb2 := below_trans hb (Nat.le_refl _) hb1
        clear c0 c1 c2 c3
        go_wp2
        go_roundw
        case rel => exact ⟨k, d + 1, by omega, by go_num, by go_num, by omega, Lib.hid (by rw [HE.out, HS.out, HO.out, H14.out]; rfl), hb2⟩
        case measure => simp [intOf]
      | false =>
        have H14 := Lib.hid e14
        go_wp2_with fail
        refine (l4Opens_c x _).mono ?_
        rintro e w1 ⟨rfl, hb1⟩
        have hb2 := below_trans hb (Nat.le_refl _) hb1
        clear c0 c1 c2 c3
        cases hop : opB x with
        | false =>
          have HO := Lib.hid hop
          clear hop
          go_wp2
          go_roundw
          case rel => exact ⟨k, d, by omega, by go_num, rfl, by omega, Lib.hid (by rw [HE.out, HS.out, HO.out, H14.out]; rfl), hb2⟩
          case measure => simp [intOf]
        | true =>
          have HO := Lib.hid hop
          clear hop
          cases d with
          | zero =>
            go_wp2
            go_ret
            exact ⟨reti (by rw [HE.out, HS.out, HO.out]; rfl), hb2⟩
          | succ d =>
            have ed : (((d + 1 : Nat) : Int) == 0) = false := by rw [beq_eq_false_iff_ne]; omega
            have ed2 : (((d : Int) + 1) == 0) = false := by rw [beq_eq_false_iff_ne]; omega
            go_wp2
            go_roundw
            case rel => exact ⟨k, d, by omega, by go_num, by (congr 1; first | done | omega), by omega, Lib.hid (by rw [HE.out, HS.out, HO.out]; rfl), hb2⟩
            case measure => simp [intOf]
end Go.Proofs.Ytfgbbajkdpideaa
