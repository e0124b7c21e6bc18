/- FnPickPlaces: the walk of the law. -/
import Derived.Test.YtcpjhlkcfohkiaaSame
import Derived.Test.YtcpjhlkcfohkiaaPicks2
import Derived.Test.YtcpjhlkcfohkiaaExact1
namespace Go.Proofs.Ytcpjhlkcfohkiaa
open Go.RowKit
set_option linter.unusedVariables false
set_option linter.unusedSimpArgs false

theorem picksI_pre (l : List Cd) (k : Nat) : ∀ d, ∃ r, picksI l (k + d) = picksI l k ++ r
  | 0 => ⟨[], by simp⟩
  | d + 1 => by
    obtain ⟨r, hr⟩ := picksI_pre l k d
    cases h : canPick l ((k + d : Nat) : Int) with
    | true => exact ⟨r ++ [((k + d : Nat) : Int)], by rw [show k + (d + 1) = (k + d) + 1 by omega, picksI_yes h, hr, List.append_assoc]⟩
    | false => exact ⟨r, by rw [show k + (d + 1) = (k + d) + 1 by omega, picksI_no h, hr]⟩
theorem picksI_get {l : List Cd} {k : Nat} (hk : k < l.length) (h : canPick l (k : Int) = true) : (picksI l l.length)[(picksI l k).length]? = some (k : Int) := by
  obtain ⟨r, hr⟩ := picksI_pre l (k + 1) (l.length - (k + 1))
  rw [show k + 1 + (l.length - (k + 1)) = l.length by omega, picksI_yes h] at hr
  rw [hr, List.append_assoc, List.getElem?_append_right (Nat.le_refl _)]
  simp
/-- What the last place before k is. -/
theorem picksI_last (l : List Cd) : ∀ k, (picksI l k).length = 0 ∨ ∃ p : Nat, canPick l (p : Int) = true ∧ p < k ∧ (picksI l k).length = (picksI l p).length + 1
  | 0 => .inl (by unfold picksI; split <;> rfl)
  | k + 1 => by
    cases h : canPick l (k : Int) with
    | true => exact .inr ⟨k, h, by omega, by rw [picksI_yes h]; simp⟩
    | false =>
      rw [picksI_no h]
      rcases picksI_last l k with h0 | ⟨p, h1, h2, h3⟩
      · exact .inl h0
      · exact .inr ⟨p, h1, by omega, h3⟩
theorem canPick_far {l : List Cd} {p k : Nat} (h : canPick l (p : Int) = true) (h2 : canPick l (k : Int) = true) (hpk : p < k) : p + 3 ≤ k := by
  rw [canPick_nat] at h h2
  simp only [pickB, Bool.and_eq_true, beq_iff_eq] at h h2
  have h1 : k ≠ p + 1 := fun e => by subst e; omega
  have h3 : k ≠ p + 2 := fun e => by subst e; omega
  omega

def FPRel (w : World) (l : List Cd) (av kv : Value) (wr : World) : Prop := ∃ k : Nat, k ≤ l.length ∧ kv = .int .i64 k ∧ av = .int .i64 (picksI l k).length ∧ Below w.heap.size w wr

set_option maxRecDepth 100000 in
set_option maxHeartbeats 4000000 in
theorem fnPickPlaces_c (w : World) (A : Option Addr) (c : Nat) (bs : List Int) (hA : Reads w w.heap.size 1 A bs.length (bs.map (.int .u8))) (hl : bs.length ≤ 9223372036854775807) (hb : ∀ x ∈ bs, 0 ≤ x ∧ x ≤ 255) (hcap : bs.length ≤ c) :
    Calls Try.prog 7 #[.slice A bs.length c] w fun e w' => e = .returned (.bool true) ∧ Below w.heap.size w w' := by
  by_cases hbig : 1048576 < bs.length
  · go_enter Try.func7, Try.ntmps7
    go_wp2
    go_ret
    exact ⟨rfl, Below.refl _ _⟩
  · go_enter Try.func7, Try.ntmps7
    go_wp2_with fail
    refine (drawPickPlaces_c A c bs w hA hb hl hcap).mono ?_
    rintro e w1 ⟨l, A1, c1, rfl, hl2, o1, b1⟩
    have r1 := OC.rd o1
    go_wp2_with fail
    refine (iPickPlaces_c A1 c1 l w1 r1 (by omega)).mono ?_
    rintro e w2 ⟨A2, c2, rfl, o2, b2⟩
    have r2 := OwI.rd o2
    replace r1 := (r1.below b2).more b2.size
    go_wp2_with fail
    refine (sPickPlaces_c A1 c1 l w2 r1 (by omega)).mono ?_
    rintro e w3 ⟨A3, c3, rfl, o3, b3⟩
    have r3 := OwI.rd o3
    replace r2 := (r2.below b3).more b3.size
    replace r1 := (r1.below b3).more b3.size
    have hPl : (picksI l l.length).length ≤ 200000 := by
      have : ∀ k, (picksI l k).length ≤ k := fun k => by
        induction k with
        | zero => unfold picksI; split <;> simp [picksFrom]
        | succ k ih =>
          cases h : canPick l (k : Int) with
          | true => rw [picksI_yes h]; simp; omega
          | false => rw [picksI_no h]; omega
      exact Nat.le_trans (this _) hl2
    go_wp2_with fail
    refine (sameInts_c A2 A3 c2 c3 _ w3 r2 r3 (by omega)).mono ?_
    rintro e w4 ⟨rfl, b4⟩
    replace r2 := (r2.below b4).more b4.size
    replace r1 := (r1.below b4).more b4.size
    have hB := below_trans (below_trans (below_trans b1 (Nat.le_refl _) b2) (Nat.le_refl _) b3) (Nat.le_refl _) b4
    have HG := Lib.hid (fun k (hk : k < l.length) (h : canPick l (k : Int) = true) => picksI_get hk h)
    have HL := Lib.hid (picksI_last l)
    have HEnd := Lib.hid (show (picksI l l.length).length = (picksI l l.length).length from rfl)
    clear r3 o1 o2 o3 b1 b2 b3 b4
    obtain ⟨P, hP⟩ : ∃ P, picksI l l.length = P := ⟨_, rfl⟩
    rw [hP] at r2 hPl ⊢
    obtain ⟨pn, hpn⟩ : ∃ pn, P.length = pn := ⟨_, rfl⟩
    rw [hpn] at hPl ⊢
    have HPN := Lib.hid hpn
    clear hpn
    go_wp2
    go_loopw [5, 6] (fun av kv wr => FPRel w4 l av kv wr) (fun _ kv _ => l.length - (intOf kv).toNat)
    case atStart => exact ⟨0, Nat.zero_le _, rfl, by rw [show (picksI l 0).length = 0 by unfold picksI; split <;> rfl]; rfl, Below.refl _ _⟩
    case round =>
      obtain ⟨k, hk, rfl, rfl, hbr⟩ := hrel
      by_cases hlt : k < l.length
      · go_wp2_with fail
        refine (iCanPick_c A1 c1 l k wr ((r1.below hbr).more hbr.size) (by omega)).mono ?_
        rintro e w5 ⟨rfl, b5⟩
        have hb5 := below_trans hbr (Nat.le_refl _) b5
        cases hc : canPick l (k : Int) with
        | false =>
          have HN := Lib.hid (picksI_no hc)
          clear hc
          go_wp2
          go_roundw
          case rel => exact ⟨k + 1, by omega, by go_num, by rw [HN.out], hb5⟩
          case measure => (simp [intOf] <;> omega)
        | true =>
          have HY := Lib.hid (picksI_yes hc)
          have hg := HG.out k hlt hc
          rw [hP] at hg
          have hat := (List.getElem?_eq_some_iff.1 hg).1
          have hatn := hat
          rw [HPN.out] at hatn
          obtain ⟨pb, po, x, hA2, hpB, hx, c0⟩ := (r2.below hb5).at_ hat
          rw [hg] at hx
          injection hx with hx
          subst hx
          subst hA2
          have kk : ((k : Int) != (k : Int)) = false := by simp
          rcases HL.out k with h0 | ⟨p, p1, p2, p3⟩
          · have hz : (((picksI l k).length : Nat) : Int) = 0 := by omega
            have HZ := Lib.hid (show (picksI l (k + 1)).length = 1 by rw [HY.out]; simp [h0])
            rw [h0] at c0 hatn ⊢
            have c00 : w5.cell? ⟨pb, po, none⟩ = some (.int .i64 k) := by simpa using c0
            clear hat
            have g1 : decide ((0 : Int) ≥ (pn : Int)) = false := decide_eq_false (by omega)
            have g2 : decide ((pn : Int) ≤ (0 : Int)) = false := decide_eq_false (by omega)
            have g3 : (0 : Int) < (pn : Int) := by omega
            have g5 : decide (pn = 0) = false := decide_eq_false (by omega)
            clear hc hz h0 hg
            go_wp2_with fail
            go_quiet (fail)
            go_wp2
            go_roundw
            case rel => exact ⟨k + 1, by omega, by go_num, by rw [HZ.out]; go_num, hb5.trans ⟨rfl, rfl, rfl, Nat.le_refl _, fun _ _ => rfl⟩⟩
            case measure => (simp [intOf] <;> omega)
          · have hg2 := HG.out p (by omega) p1
            rw [hP] at hg2
            have hfar := canPick_far p1 hc p2
            obtain ⟨a, ha⟩ : ∃ a, (picksI l p).length = a := ⟨_, rfl⟩
            rw [ha] at hg2 p3
            have hat2 := (List.getElem?_eq_some_iff.1 hg2).1
            obtain ⟨pb2, po2, x2, hA3, hpB2, hx2, d0⟩ := (r2.below hb5).at_ hat2
            rw [hg2] at hx2
            injection hx2 with hx2
            subst hx2
            injection hA3 with hA3
            injection hA3 with e1 e2
            subst e1 e2
            have HZ := Lib.hid (show (picksI l (k + 1)).length = a + 1 + 1 by rw [HY.out]; simp [p3])
            rw [p3] at c0 hatn ⊢
            clear hat
            rw [HPN.out] at hat2
            clear hc p3 hg hg2 p1 ha
            have hI : ((a : Int) + 1) < (pn : Int) := by omega
            have hI2 : (a : Int) < (pn : Int) := by omega
            have hpk : decide ((k : Int) < (p : Int) + 3) = false := decide_eq_false (by omega)
            have g1 : decide ((a : Int) + 1 ≥ (pn : Int)) = false := decide_eq_false (by omega)
            have g2 : decide ((pn : Int) ≤ (a : Int) + 1) = false := decide_eq_false (by omega)
            have g3 : decide ((a : Int) + 1 > 0) = true := decide_eq_true (by omega)
            have g4 : decide (0 < (a : Int) + 1) = true := decide_eq_true (by omega)
            have hw3 : IntKind.i64.wrap ((p : Int) + 3) = (p : Int) + 3 := IntWalk.i64_in _ (by omega)
            go_wp2_with fail
            go_quiet (fail)
            go_wp2
            go_roundw
            case rel => exact ⟨k + 1, by omega, by go_num, by rw [HZ.out]; go_num, hb5.trans ⟨rfl, rfl, rfl, Nat.le_refl _, fun _ _ => rfl⟩⟩
            case measure => (simp [intOf] <;> omega)
      · obtain rfl : k = l.length := by omega
        rw [hP, HPN.out]
        have hq : ((pn : Int) == (pn : Int)) = true := by simp
        go_wp2_with fail
        refine (alive_c _).mono ?_
        rintro e w5 ⟨rfl, rfl⟩
        go_wp2
        go_ret
        exact ⟨rfl, below_trans hB (Nat.le_refl _) hbr⟩
end Go.Proofs.Ytcpjhlkcfohkiaa
