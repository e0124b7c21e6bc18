/- The program's ProgramValid. -/
import Derived.Test.YtcpjhlkcfohkiaaIValid1
import Derived.Test.YtcpjhlkcfohkiaaBlocks
namespace Go.Proofs.Ytcpjhlkcfohkiaa
open Go.RowKit
set_option linter.unusedVariables false
set_option linter.unusedSimpArgs false

theorem pvRun_bad : ∀ (l : List Cd) (s : List Int) (k : Nat) (x : Cd), l[k]? = some x → cvOk x = false → pvRun s l = none
  | [], s, k, x, h, _ => by simp at h
  | y :: l, s, 0, x, h, hv => by
    simp at h
    subst h
    simp [pvRun, pvStep, hv]
  | y :: l, s, k + 1, x, h, hv => by
    simp only [List.getElem?_cons_succ] at h
    simp only [pvRun]
    split
    · exact pvRun_bad l _ k x h hv
    · rfl
set_option maxRecDepth 100000 in
set_option maxHeartbeats 1000000 in
theorem iProgramValid_c (A : Option Addr) (c : Nat) (l : List Cd) (w : World) (hA : RdC w w.heap.size A l) (hl : l.length ≤ 1000000000) :
    Calls Try.prog 55 #[.slice A l.length c] w fun e w' => e = .returned (.bool (pv l)) ∧ Below w.heap.size w w' := by
  by_cases h40 : 40 < l.length
  · have hpv : pv l = false := by simp [pv]; omega
    go_enter Try.func55, Try.ntmps55
    go_wp2
    go_ret
    exact ⟨retb hpv.symm, (by repeat (first | exact Below.refl _ _ | assumption | refine Below.alloc ?_ (by simp <;> omega) _ | refine Below.setCell ?_ (by simp <;> omega) _ | refine Below.drew ?_))⟩
  · have hd : decide ((40 : Int) < (l.length : Int)) = false := by simp; omega
    go_enter Try.func55, Try.ntmps55
    go_wp2
    go_loopw [13] (fun i wr => ∃ k : Nat, k ≤ l.length ∧ i = .int .i64 k ∧ Hid (∀ j x, j < k → l[j]? = some x → cvOk x = true) ∧ Below w.heap.size w wr) (fun i _ => l.length - (intOf i).toNat)
    case atStart => exact ⟨0, Nat.zero_le _, rfl, fun j x hj => by omega, Below.refl _ _⟩
    case round =>
      obtain ⟨k, hk, rfl, HP, hb⟩ := hrel
      by_cases hlt : k < l.length
      · obtain ⟨b, off, x, rfl, hbB, hx, c0, c1, c2, c3⟩ := (hA.below hb).at_ hlt
        have HX := Lib.hid hx
        clear hx
        have hsz := hb.size
        go_wp2_with fail
        refine (iCodeValid_c x _).mono ?_
        rintro e w1 ⟨rfl, hb1⟩
        have hbw : Below w.heap.size w w1 := by first | exact below_trans hb (Nat.le_refl _) hb1 | exact below_trans (hb.alloc hb.size _) (Nat.le_refl _) hb1
        clear c0 c1 c2 c3
        cases hv : cvOk x with
        | false =>
          go_wp2
          go_ret
          exact ⟨retb (by simp [pv, pvRun_bad l [] k x HX.out hv]), hbw⟩
        | true =>
          have HV := Lib.hid hv
          clear hv
          go_wp2
          go_roundw
          case rel =>
            refine ⟨k + 1, by omega, by go_num, fun j y hj hy => ?_, hbw⟩
            by_cases e : j = k
            · subst e
              rw [HX.out] at hy
              injection hy with hy
              subst hy
              exact HV.out
            · exact HP.out j y (by omega) hy
          case measure => simp [intOf]; omega
      · have hv : ∀ x, x ∈ l → cvOk x = true := fun x hx => by
          obtain ⟨j, hj, rfl⟩ := List.mem_iff_getElem.1 hx
          exact HP.out j _ (by omega) (List.getElem?_eq_getElem hj)
        have HV := Lib.hid hv
        clear hv
        go_wp2_with fail
        refine (blocks_c A c l wr ((hA.below hb).more hb.size) (by omega) HV.out).mono ?_
        rintro e w1 ⟨hb1, hcase⟩
        rcases hcase with ⟨hp, rfl, _⟩ | ⟨hp, v1, v2, rfl⟩
        · have hpv : pv l = true := pv_iff.2 ⟨by omega, hp⟩
          clear hp
          go_wp2
          go_ret
          exact ⟨retb hpv.symm, below_trans hb (Nat.le_refl _) hb1⟩
        · have hpv : pv l = false := by
            cases h : pv l with
            | false => rfl
            | true => exact absurd (pv_iff.1 h).2 hp
          clear hp
          go_wp2
          go_ret
          exact ⟨retb hpv.symm, below_trans hb (Nat.le_refl _) hb1⟩
end Go.Proofs.Ytcpjhlkcfohkiaa
