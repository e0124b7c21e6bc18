/- FnPeelPlaces: the walk of the law. -/
import Derived.Test.YtcpjhlkcfohkiaaSame
import Derived.Test.YtcpjhlkcfohkiaaPeelJ
import Derived.Test.YtcpjhlkcfohkiaaPeelLaw
namespace Go.Proofs.Ytcpjhlkcfohkiaa
open Go.RowKit
set_option linter.unusedVariables false
set_option linter.unusedSimpArgs false

theorem OC.cap {w : World} {base n c : Nat} {A : Option Addr} {l : List Cd} (h : OC w base A n c l) : n ≤ c := by
  rcases h.2 with ⟨hv, h0⟩ | ⟨g, cap, cur, hv, -, -, h4, -⟩
  · omega
  · injection hv with _ _ h3
    omega

def FPlRel (w : World) (l : List Cd) (av kv : Value) (wr : World) : Prop := ∃ k : Nat, k ≤ l.length ∧ kv = .int .i64 k ∧ av = .int .i64 (peelPl l k).length ∧ Below w.heap.size w wr

set_option maxRecDepth 100000 in
set_option maxHeartbeats 4000000 in
theorem fnPeelPlaces_c (w : World) (A : Option Addr) (c : Nat) (bs : List Int) (hA : Reads w w.heap.size 1 A bs.length (bs.map (.int .u8))) (hl : bs.length ≤ 9223372036854775807) (hb : ∀ x ∈ bs, 0 ≤ x ∧ x ≤ 255) (hcap : bs.length ≤ c) :
    Calls Try.prog 9 #[.slice A bs.length c] w fun e w' => e = .returned (.bool true) ∧ Below w.heap.size w w' := by
  by_cases hbig : 1048576 < bs.length
  · go_enter Try.func9, Try.ntmps9
    go_wp2
    go_ret
    exact ⟨rfl, Below.refl _ _⟩
  · go_enter Try.func9, Try.ntmps9
    go_wp2_with fail
    refine (drawPeelPlaces_c A c bs w hA hb hl hcap).mono ?_
    rintro e w1 ⟨l, A1, c1, rfl, hl2, o1, b1⟩
    have r1 := OC.rd o1
    have hc1 := OC.cap o1
    have hn1 := OC.nilc o1
    go_wp2_with fail
    refine (iPeelPlaces_c A1 c1 l w1 r1 (by omega) hc1).mono ?_
    rintro e w2 ⟨A2, c2, rfl, o2, b2⟩
    have r2 := OwI.rd o2
    replace r1 := (r1.below b2).more b2.size
    go_wp2_with fail
    refine (sPeelPlaces_c A1 c1 l w2 r1 (by omega) hn1 hc1).mono ?_
    rintro e w3 ⟨A3, c3, rfl, o3, b3⟩
    have r3 := OwI.rd o3
    replace r2 := (r2.below b3).more b3.size
    replace r1 := (r1.below b3).more b3.size
    have hPl : (peelPl l l.length).length ≤ 200000 := Nat.le_trans (peelPl_len l _) hl2
    go_wp2_with fail
    refine (sameInts_c A2 A3 c2 c3 _ w3 r2 r3 (by omega)).mono ?_
    rintro e w4 ⟨rfl, b4⟩
    replace r2 := (r2.below b4).more b4.size
    replace r1 := (r1.below b4).more b4.size
    have hB := below_trans (below_trans (below_trans b1 (Nat.le_refl _) b2) (Nat.le_refl _) b3) (Nat.le_refl _) b4
    have hmono : ∀ k, k ≤ l.length → (peelPl l k).length ≤ (peelPl l l.length).length := fun k hk => by
      obtain ⟨r, hr, -⟩ := peelPl_pre l k (l.length - k)
      rw [show k + (l.length - k) = l.length by omega] at hr
      rw [hr, List.length_append]
      omega
    have HM := Lib.hid hmono
    have HG := Lib.hid (fun k (hk : k < l.length) (h : peelB l (k : Int) = true) => peelPl_get hk h)
    have HF := Lib.hid (fun k (hk : k < l.length) (h : peelB l (k : Int) = false) (q : Int) (hq : (peelPl l l.length)[(peelPl l k).length]? = some q) => peelPl_far hk h hq)
    have HBad := Lib.hid (fun (h : pv l = false) => peelPl_bad h l.length)
    clear r3 o1 o2 o3 b1 b2 b3 b4 hmono hc1 hn1
    obtain ⟨P, hP⟩ : ∃ P, peelPl l l.length = P := ⟨_, rfl⟩
    rw [hP] at r2 hPl ⊢
    obtain ⟨pn, hpn⟩ : ∃ pn, P.length = pn := ⟨_, rfl⟩
    rw [hpn] at hPl ⊢
    have HPN := Lib.hid hpn
    clear hpn
    go_wp2
    go_loopw [5, 6] (fun av kv wr => FPlRel w4 l av kv wr) (fun _ kv _ => l.length - (intOf kv).toNat)
    case atStart => exact ⟨0, Nat.zero_le _, rfl, rfl, Below.refl _ _⟩
    case round =>
      obtain ⟨k, hk, rfl, rfl, hbr⟩ := hrel
      by_cases hlt : k < l.length
      · go_wp2_with fail
        refine (sProgramValid_c A1 c1 l wr ((r1.below hbr).more hbr.size) (by omega)).mono ?_
        rintro e w5 ⟨rfl, b5⟩
        have hb5 := below_trans hbr (Nat.le_refl _) b5
        cases hp : pv l with
        | false =>
          have hP0 := HBad.out hp
          rw [hP] at hP0
          have hpn0 : pn = 0 := by rw [← HPN.out, hP0]; rfl
          have hk0 : (peelPl l k).length = 0 := by rw [peelPl_bad hp k]; rfl
          rw [hk0]
          subst hpn0
          clear hp hk0
          go_wp2_with fail
          refine (alive_c _).mono ?_
          rintro e w6 ⟨rfl, rfl⟩
          go_wp2
          go_ret
          exact ⟨rfl, below_trans hB (Nat.le_refl _) hb5⟩
        | true =>
          have hkI : (k : Int) < (l.length : Int) := by omega
          obtain ⟨lb, lo, x, hA1, hlB, hx, d0, d1, d2, d3⟩ := (r1.below hb5).at_ hlt
          have hxd : cdAt l k = x := by unfold cdAt; rw [hx]
          have hat := HM.out k hk
          rw [hP, HPN.out] at hat
          cases hpb : peelB l (k : Int) with
          | true =>
            have HY := Lib.hid (show (peelPl l (k + 1)).length = (peelPl l k).length + 1 by rw [peelPl_yes hpb]; simp)
            have hg := HG.out k hlt hpb
            rw [hP] at hg
            have ha := (List.getElem?_eq_some_iff.1 hg).1
            obtain ⟨pb, po, y, hA2, hpB, hy, c0⟩ := (r2.below hb5).at_ ha
            rw [hg] at hy
            injection hy with hy
            subst hy
            rw [HPN.out] at ha
            have h13 : x.op = 13 := by
              simp only [peelB, peelOk, Bool.and_eq_true, Int.toNat_natCast, hxd, beq_iff_eq] at hpb
              exact hpb.2.2.1
            have b13 : (x.op != 13) = false := by simp [h13]
            have haI : ((peelPl l k).length : Int) < (pn : Int) := by omega
            subst hA1 hA2
            rw [h13] at d0
            clear hpb hg hx hxd h13 b13 hp
            generalize (peelPl l k).length = at_ at *
            go_wp2
            go_roundw
            case rel => exact ⟨k + 1, by omega, by go_num, by rw [HY.out]; go_num, hb5⟩
            case measure => (simp [intOf] <;> omega)
          | false =>
            have HN := Lib.hid (show (peelPl l (k + 1)).length = (peelPl l k).length by rw [peelPl_no hpb])
            have hno : (x.op == 13) = false ∨ ((x.op == 13) = true ∧ (x.b == 1) = false) := by
              cases e1 : x.op == 13 with
              | false => exact .inl rfl
              | true =>
                refine .inr ⟨rfl, ?_⟩
                cases e2 : x.b == 1 with
                | false => rfl
                | true =>
                  have := peel_one hp hlt (by rw [hxd]; simpa using e1) (by rw [hxd]; simpa using e2)
                  rw [hpb] at this
                  cases this
            by_cases hap : (peelPl l k).length < pn
            · have hPk : (peelPl l k).length < P.length := by rw [HPN.out]; exact hap
              obtain ⟨pb, po, y, hA2, hpB, hy, c0⟩ := (r2.below hb5).at_ hPk
              have hne := HF.out k hlt hpb y (by rw [hP]; exact hy)
              have hneb : (y == (k : Int)) = false := by rw [beq_eq_false_iff_ne]; exact hne
              have haI : ((peelPl l k).length : Int) < (pn : Int) := by omega
              subst hA1 hA2
              clear hpb hx hxd hy hne hp hPk
              generalize (peelPl l k).length = at_ at *
              rcases hno with e1 | ⟨e1, e2⟩
              · go_wp2
                go_roundw
                case rel => exact ⟨k + 1, by omega, by go_num, by rw [HN.out], hb5⟩
                case measure => (simp [intOf] <;> omega)
              · go_wp2
                go_roundw
                case rel => exact ⟨k + 1, by omega, by go_num, by rw [HN.out], hb5⟩
                case measure => (simp [intOf] <;> omega)
            · have haI : ¬ ((peelPl l k).length : Int) < (pn : Int) := by omega
              subst hA1
              clear hpb hx hxd hp
              generalize (peelPl l k).length = at_ at *
              rcases hno with e1 | ⟨e1, e2⟩
              · go_wp2
                go_roundw
                case rel => exact ⟨k + 1, by omega, by go_num, by rw [HN.out], hb5⟩
                case measure => (simp [intOf] <;> omega)
              · go_wp2
                go_roundw
                case rel => exact ⟨k + 1, by omega, by go_num, by rw [HN.out], hb5⟩
                case measure => (simp [intOf] <;> omega)
      · obtain rfl : k = l.length := by omega
        rw [hP, HPN.out]
        have hq : ((pn : Int) == (pn : Int)) = true := by simp
        go_wp2_with fail
        refine (alive_c _).mono ?_
        rintro e w5 ⟨rfl, rfl⟩
        go_wp2
        go_ret
        exact ⟨rfl, below_trans hB (Nat.le_refl _) hbr⟩
end Go.Proofs.Ytcpjhlkcfohkiaa
