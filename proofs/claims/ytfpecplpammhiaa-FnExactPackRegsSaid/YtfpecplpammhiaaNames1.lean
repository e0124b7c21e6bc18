/- Masks of lists, names of the registers of one instruction. -/
import Derived.Test.YtfpecplpammhiaaNames0
import Derived.Test.YtfpecplpammhiaaWrites
namespace Go.Proofs.Ytfpecplpammhiaa
open Go.RowKit

theorem RdI.at1 {w : World} {B : Nat} {A : Option Addr} {xs : List Int} (h : RdI w B A xs) {k : Nat} (hk : k < xs.length) :
    ∃ b off, A = some ⟨b, off, none⟩ ∧ b < B ∧ ∀ j x, xs[j]? = some x → w.cell? ⟨b, off + j, none⟩ = some (.int .i64 x) := by
  obtain ⟨b, off, e, hb, hc⟩ := h.2 (by omega)
  exact ⟨b, off, e, hb, fun j x hx => hc j _ (by simp [hx])⟩

theorem nm_get {t : List Int} (ht : t.length = 4) {a : Nat} (ha : a ≤ 3) : t[a]? = some (nm t a) := by
  have : a < t.length := by omega
  simp [nm, List.getD_eq_getElem?_getD, List.getElem?_eq_getElem this]

set_option maxRecDepth 100000 in
set_option maxHeartbeats 4000000 in
theorem l22Map_c (x : Cd) (At : Option Addr) (ct : Nat) (t : List Int) (w : World) (hv : cvOk x = true) (ht : t.length = 4) (hT : RdI w w.heap.size At t) :
    Calls Try.prog 63 #[x.val, .slice At t.length ct] w fun e w' => e = .returned (ren (nm t) x).val ∧ Below w.heap.size w w' := by
  obtain ⟨bt, ot, rfl, hbt, hcell⟩ := hT.at1 (k := 0) (by omega)
  have ha := cvOk_a hv
  have hb := cvOk_b hv
  have hc := cvOk_c hv
  have hb2 := cvOk_b2 hv
  have ho := op14 hv
  obtain ⟨a, hae⟩ := Int.eq_ofNat_of_zero_le ha.1
  obtain ⟨b, hbe⟩ := Int.eq_ofNat_of_zero_le hb.1
  obtain ⟨c, hce⟩ := Int.eq_ofNat_of_zero_le hc.1
  obtain ⟨o, xa, xb, xc⟩ := x
  simp only at ha hb hc hb2 hae hbe hce ho
  subst hae hbe hce
  have hca := hcell a _ (nm_get ht (by omega))
  have hcc := hcell c _ (nm_get ht (by omega))
  have l3 : (3 : Int) < (t.length : Int) := by omega
  have l4 : a < t.length := by omega
  have l5 : c < t.length := by omega
  have HC := Lib.hid hcell
  have HT := Lib.hid ht
  clear hcell ht hv hT
  unfold Cd.val
  rcases ho with rfl | rfl | rfl | rfl | rfl | rfl | rfl | rfl | rfl | rfl | rfl | rfl | rfl | rfl
  all_goals
    try (have hb3 := (hb2 (by decide)).2; have l6 : b < t.length := by omega
         have hcb := HC.out b _ (nm_get HT.out (by omega)))
    clear hb2
    go_enter Try.func63, Try.ntmps63
    go_wp2
    exact bodyPost_ret (v := (ren (nm t) ⟨_, a, b, c⟩).val) (by simp [results, Try.results63, go_sem, Cd.val, ren, regsN]) rfl ⟨rfl, (by repeat (first | exact Below.refl _ _ | assumption | refine Below.alloc ?_ (by simp <;> omega) _ | refine Below.setCell ?_ (by simp <;> omega) _ | refine Below.drew ?_))⟩

theorem sMaskAll_c (n : Int) (w : World) :
    Calls Try.prog 62 #[.int .i64 n] w fun e w' => e = .returned (.int .i64 (maskAllI n)) ∧ w = w' := by
  cases h : inR n 1 8 with
  | false =>
    go_enter Try.func62, Try.ntmps62
    go_wp2_with (go_at_call 49; refine (l1In_c _ _ _ _).mono ?_; rintro e w' ⟨rfl, rfl⟩)
    go_ret
    exact ⟨reti (by simp [maskAllI, h]), rfl⟩
  | true =>
    have h' := inR_iff.1 h
    have h8 : n = 1 ∨ n = 2 ∨ n = 3 ∨ n = 4 ∨ n = 5 ∨ n = 6 ∨ n = 7 ∨ n = 8 := by omega
    clear h h'
    rcases h8 with rfl | rfl | rfl | rfl | rfl | rfl | rfl | rfl
    all_goals
      go_enter Try.func62, Try.ntmps62
      go_wp2_with (go_at_call 49; refine (l1In_c _ _ _ _).mono ?_; rintro e w' ⟨rfl, rfl⟩)
      go_ret
      exact ⟨reti (by decide), rfl⟩

def MORel (xs : List Int) (n : Int) (mv iv : Value) : Prop :=
  ∃ k : Nat, k ≤ xs.length ∧ iv = .int .i64 k ∧ mv = .int .i64 (orBits (xs.take k)) ∧ allIn (xs.take k) n = true

set_option maxHeartbeats 1000000 in
theorem sMaskOf_c (A : Option Addr) (c : Nat) (xs : List Int) (n : Int) (w : World) (hA : RdI w w.heap.size A xs) (hl : xs.length ≤ 1000000000) :
    Calls Try.prog 61 #[.slice A xs.length c, .int .i64 n] w fun e w' => e = .returned (.int .i64 (maskOfI xs n)) ∧ w = w' := by
  cases hn : inR n 1 8 with
  | false =>
    go_enter Try.func61, Try.ntmps61
    go_wp2_with (go_at_call 49; refine (l1In_c _ _ _ _).mono ?_; rintro e w' ⟨rfl, rfl⟩)
    go_ret
    exact ⟨reti (by simp [maskOfI, hn]), rfl⟩
  | true =>
    have hn' := inR_iff.1 hn
    obtain ⟨n1, n8⟩ := hn'
    go_enter Try.func61, Try.ntmps61
    go_wp2_with (go_at_call 49; refine (l1In_c _ _ _ _).mono ?_; rintro e w' ⟨rfl, rfl⟩)
    have HN := Lib.hid hn
    clear hn
    go_loop [5, 6] (fun mv iv => MORel xs n mv iv) (fun _ i => xs.length - (intOf i).toNat)
    case atStart => exact ⟨0, Nat.zero_le _, rfl, rfl, rfl⟩
    case round =>
      obtain ⟨k, hk, rfl, rfl, hall⟩ := hrel
      by_cases hlt : k < xs.length
      · obtain ⟨b, off, x, rfl, hb, hx, hc⟩ := hA.at_ hlt
        have hm := orBits_lt n8 hall
        have HA := Lib.hid hall
        have HO := Lib.hid (orBits_take hx)
        have HT := Lib.hid (allIn_take (n := n) hx)
        have HX := Lib.hid hx
        generalize orBits (xs.take k) = m at *
        clear hall hx
        cases hr : inR x 0 (n - 1) with
        | false =>
          have HF := Lib.hid (allIn_bad HX.out hr)
          go_wp2_with (go_at_call 49; refine (l1In_c _ _ _ _).mono ?_; rintro e w' ⟨rfl, rfl⟩)
          go_ret
          exact ⟨reti (by simp [maskOfI, HF.out]), rfl⟩
        | true =>
          obtain ⟨x1, x2⟩ := inR_iff.1 hr
          obtain ⟨y, rfl⟩ := Int.eq_ofNat_of_zero_le x1
          have HR := Lib.hid hr
          have y7 : y ≤ 7 := by omega
          go_wp2_with (go_at_call 49; refine (l1In_c _ _ _ _).mono ?_; rintro e w' ⟨rfl, rfl⟩)
          go_round
          case rel =>
            have ho := HO.out
            rw [Int.toNat_natCast] at ho
            exact ⟨k + 1, by omega, by go_num, by rw [ho, or_bit _ _ (by omega) (by omega)], by rw [HT.out, HA.out, HR.out]; rfl⟩
          case measure => simp [intOf]; omega
      · obtain rfl : k = xs.length := by omega
        rw [List.take_length] at hall ⊢
        have HA := Lib.hid hall
        clear hall
        go_wp2
        go_ret
        exact ⟨reti (by simp [maskOfI, HN.out, HA.out]), rfl⟩
end Go.Proofs.Ytfpecplpammhiaa
