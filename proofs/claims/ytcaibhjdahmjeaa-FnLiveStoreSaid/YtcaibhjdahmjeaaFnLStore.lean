/- FnLiveStore: the walk of the law. -/
import Derived.Test.YtcaibhjdahmjeaaSame
import Derived.Test.YtcaibhjdahmjeaaLiveMost
import Derived.Test.YtcaibhjdahmjeaaBits
namespace Go.Proofs.Ytcaibhjdahmjeaa
open Go.RowKit
set_option linter.unusedVariables false
set_option linter.unusedSimpArgs false

theorem and_of_sub {a b : Nat} (h : sub a b) : b &&& a = a := by
  apply Nat.eq_of_testBit_eq
  intro i
  rw [Nat.testBit_and]
  cases ha : a.testBit i with
  | false => simp
  | true => rw [h i ha]; rfl
theorem lstore_law {l : List Cd} (hp : pv l = true) (h40 : l.length < 40) {a b : Nat} (ha : a < 4) (hb : b < 4) : pv (l ++ [cStore a b]) = true ∧ (lsL (l ++ [cStore a b])).length = l.length + 2 ∧
    (∀ k, k < l.length + 1 → ∃ u v : Nat, (lsL (l ++ [cStore a b]))[k]? = some (u : Int) ∧ (lsL l)[k]? = some (v : Int) ∧ u < 16 ∧ v < 16 ∧ u &&& v = v) ∧ (lsL (l ++ [cStore a b]))[l.length]? = some ((2 ^ a ||| 2 ^ b : Nat) : Int) := by
  have hq := store_pv hp h40 (a := a) (b := b) (by omega) (by omega)
  obtain ⟨h1, h2⟩ := lsL_ok hq
  obtain ⟨h3, h4⟩ := lsL_ok hp
  have hl : (l ++ [cStore a b]).length = l.length + 1 := by simp
  rw [hl] at h1 h2
  refine ⟨hq, h1, fun k hk => ⟨_, _, h2 k (by omega), h4 k hk, (fix_is hq).1.b16 k, (fix_is hp).1.b16 k, and_of_sub (live_more hp hq k)⟩, ?_⟩
  rw [h2 _ (by omega), store_set hq (by omega) (by omega)]

set_option maxRecDepth 100000 in
set_option maxHeartbeats 8000000 in
theorem fnLiveStore_c (w : World) (A : Option Addr) (c : Nat) (bs : List Int) (hA : Reads w w.heap.size 1 A bs.length (bs.map (.int .u8))) (hl : bs.length ≤ 9223372036854775807) (hb : ∀ x ∈ bs, 0 ≤ x ∧ x ≤ 255) (hcap : bs.length ≤ c) (Am : Option Addr) (cm : Nat) (ms : List Int) (hAm : Reads w w.heap.size 1 Am ms.length (ms.map (.int .u8))) (hml : ms.length ≤ 9223372036854775807) (hmb : ∀ x ∈ ms, 0 ≤ x ∧ x ≤ 255) (hmcap : ms.length ≤ cm) :
    Calls Try.prog 12 #[.slice A bs.length c, .slice Am ms.length cm] w fun e w' => e = .returned (.bool true) ∧ Below w.heap.size w w' := by
  by_cases hbig0 : 1048576 < bs.length
  · go_enter Try.func12, Try.ntmps12
    go_wp2
    go_ret
    exact ⟨rfl, Below.refl _ _⟩
  by_cases hbig1 : 1048576 < ms.length
  · go_enter Try.func12, Try.ntmps12
    go_wp2
    go_ret
    exact ⟨rfl, Below.refl _ _⟩
  · go_enter Try.func12, Try.ntmps12
    go_wp2_with fail
    refine (drawLiveSets_c A c bs w hA hb hl hcap).mono ?_
    rintro e w1 ⟨l, A1, c1, rfl, hl2, o1, hB⟩
    have r1 := OC.rd o1
    have hn1 := fun e => OC.nilc o1 e
    clear o1
    have hLl := lsL_len l
    go_wp2_with fail
    refine (iLiveSetsA_c A1 c1 l w1 r1 (by omega)).mono ?_
    rintro e w2 ⟨A2, c2, rfl, o2, b2⟩
    replace r1 := (r1.below b2).more b2.size
    replace hB := below_trans hB (Nat.le_refl _) b2
    clear b2
    have r2 := OwI.rd o2
    go_wp2_with fail
    refine (sLiveSetsA_c A1 c1 l w2 r1 (by omega)).mono ?_
    rintro e w3 ⟨A3, c3, rfl, o3, b3⟩
    replace r1 := (r1.below b3).more b3.size
    replace r2 := (r2.below b3).more b3.size
    replace hB := below_trans hB (Nat.le_refl _) b3
    clear b3
    have r3 := OwI.rd o3
    clear o2 o3
    go_wp2_with fail
    refine (sameInts_c A2 A3 c2 c3 _ w3 r2 r3 (by omega)).mono ?_
    rintro e w4 ⟨rfl, b4⟩
    replace r1 := (r1.below b4).more b4.size
    replace r2 := (r2.below b4).more b4.size
    replace r3 := (r3.below b4).more b4.size
    replace hB := below_trans hB (Nat.le_refl _) b4
    clear b4
    clear r3
    go_wp2_with fail
    refine (sProgramValid_c A1 c1 l w4 r1 (by omega)).mono ?_
    rintro e w5 ⟨rfl, b5⟩
    replace r1 := (r1.below b5).more b5.size
    replace r2 := (r2.below b5).more b5.size
    replace hB := below_trans hB (Nat.le_refl _) b5
    clear b5
    cases hp : pv l with
    | false =>
      go_wp2_with fail
      refine (alive_c _).mono ?_
      rintro e wz ⟨rfl, rfl⟩
      go_wp2
      go_ret
      exact ⟨rfl, hB⟩
    | true =>
      by_cases h40 : l.length = 40
      · have hb40 : ((l.length : Int) == 40) = true := by rw [h40]; rfl
        clear hp h40
        go_wp2_with fail
        refine (alive_c _).mono ?_
        rintro e wz ⟨rfl, rfl⟩
        go_wp2
        go_ret
        exact ⟨rfl, hB⟩
      · have hb40 : ((l.length : Int) == 40) = false := beq_eq_false_iff_ne.2 (by omega)
        have hlt40 : l.length < 40 := by have := (pv_iff.1 hp).1; omega
        obtain ⟨a, hae⟩ : ∃ a : Nat, ms.length % 4 = a := ⟨_, rfl⟩
        obtain ⟨b, hbe⟩ : ∃ b : Nat, ms.length / 4 % 4 = b := ⟨_, rfl⟩
        have ha4 : a < 4 := by omega
        have hb4 : b < 4 := by omega
        have hqa : (ms.length : Int) % 4 = (a : Int) := by omega
        have hqb : (ms.length : Int) / 4 % 4 = (b : Int) := by omega
        have HQA := Lib.hid hqa
        have HQB := Lib.hid hqb
        have hL1 := (lsL_ok hp).1
        obtain ⟨hq, hX1, hX2, hX3⟩ := lstore_law hp hlt40 ha4 hb4
        have HX2 := Lib.hid hX2
        have HX3 := Lib.hid hX3
        have HX1 := Lib.hid hX1
        have HL1 := Lib.hid hL1
        have ho0 := Lib.hid (OC.empty_ w5 w5.heap.size (Nat.le_refl _))
        have hbE : Below w5.heap.size w5 (w5.alloc (.cells #[] 48)) := (by repeat (first | exact Below.refl _ _ | assumption | refine Below.alloc ?_ (by simp <;> omega) _ | refine Below.setCell ?_ (by simp <;> omega) _ | refine Below.drew ?_))
        have hAE := Lib.hid (r1.below hbE)
        clear hqa hqb hae hbe hp hq hX1 hX2 hX3 hL1 h40
        go_wp2_with (at_builtin; refine app_cs rfl _ _ rfl w5.heap.size _ _ _ _ ho0.out rfl w5.heap.size A1 l.length c1 l rfl rfl hn1 hAE.out ?hn ?hb ?_)
        case hn => omega
        case hb => exact hbE.size
        intro A6 c6 w6 ho6 hg6
        have hb6 := below_gr hbE hbE.size ho0.out (Nat.le_refl _) hg6
        try simp only [Nat.zero_add, List.nil_append] at ho6
        clear ho0 hbE hAE hg6
        rw [HQA.out, HQB.out]
        go_wp2_with (at_builtin; refine app_code rfl _ _ rfl w5.heap.size _ _ _ _ (ho6.alloc _) rfl (cStore a b) w6.heap.size 1 rfl ?h0 ?h1 ?h2 ?h3 ?hn ?hb ?_)
        case h0 => simp [go_sem, cStore]
        case h1 => simp [go_sem, cStore]
        case h2 => simp [go_sem, cStore]
        case h3 => simp [go_sem, cStore]
        case hn => omega
        case hb => have := hb6.size; simp; omega
        intro A7 c7 w7 ho7 hg7
        have hb7 := below_app hb6 hb6.size ho6 (Nat.le_refl _) hg7
        clear hg7 hb6 ho6
        have hql : (l ++ [cStore a b]).length = l.length + 1 := by simp
        have rq := OC.rd (show OC w7 w5.heap.size A7 (l ++ [cStore a b]).length c7 (l ++ [cStore a b]) by rw [hql]; exact ho7)
        clear ho7
        replace r1 := (r1.below hb7).more hb7.size
        replace r2 := (r2.below hb7).more hb7.size
        replace hB := below_trans hB (Nat.le_refl _) hb7
        clear hb7
        have HC := Lib.hid (fun W h => iLiveSetsA_c A7 c7 (l ++ [cStore a b]) W h (by omega))
        generalize lsL (l ++ [cStore a b]) = X at *
        generalize lsL l = L at *
        rw [hql] at HC
        generalize l ++ [cStore a b] = q at *
        go_wp2_with fail
        refine (HC.out w7 rq).mono ?_
        rintro e w8 ⟨A8, c8, rfl, o8, b8⟩
        replace r1 := (r1.below b8).more b8.size
        replace r2 := (r2.below b8).more b8.size
        replace rq := (rq.below b8).more b8.size
        replace hB := below_trans hB (Nat.le_refl _) b8
        clear b8
        have r8 := OwI.rd o8
        clear o8 HC hql
        clear rq
        have hX1 : X.length ≤ l.length + 2 ∧ l.length + 2 ≤ X.length := by have := HX1.out; omega
        have hL1 : L.length ≤ l.length + 1 ∧ l.length + 1 ≤ L.length := by have := HL1.out; omega
        obtain ⟨hX1a, hX1b⟩ := hX1
        obtain ⟨hL1a, hL1b⟩ := hL1
        go_wp2
        go_loopw [10] (fun kv wr => ∃ k : Nat, k ≤ L.length ∧ kv = .int .i64 k ∧ Below w8.heap.size w8 wr) (fun kv _ => L.length - (intOf kv).toNat)
        case atStart => exact ⟨0, Nat.zero_le _, rfl, Below.refl _ _⟩
        case round =>
          obtain ⟨k, hk, rfl, hbk⟩ := hrel
          obtain ⟨ow, how⟩ : ∃ z, z = wr := ⟨wr, rfl⟩
          subst how
          by_cases hlt : k < L.length
          · have hkI : (k : Int) < (L.length : Int) := by omega
            have hkX : (k : Int) < (X.length : Int) := by omega
            have hkXn : k < X.length := by omega
            replace r2 := (r2.below hbk).more hbk.size
            replace r8 := (r8.below hbk).more hbk.size
            obtain ⟨u, v, hu, hv, hu16, hv16, huv⟩ := HX2.out k (by omega)
            obtain ⟨pb, po, x0, rfl, -, g1, d1⟩ := r2.at_ hlt
            obtain ⟨pb8, po8, x8, rfl, -, g8, d8⟩ := r8.at_ (show k < X.length by omega)
            rw [hv] at g1
            rw [hu] at g8
            injection g1 with g1
            injection g8 with g8
            subst g1 g8
            have hand := bits_and64 u v (by omega) (by omega)
            rw [huv] at hand
            have hne : ((v : Int) != (v : Int)) = false := by simp
            clear hu hv huv r2 r8
            go_wp2
            go_quiet (fail)
            go_wp2
            go_roundw
            case rel => exact ⟨k + 1, by omega, by go_num, below_drewN hbk _⟩
            case measure => (simp [intOf] <;> omega)
          · obtain rfl : k = L.length := by omega
            clear hk hlt HX2
            replace r1 := (r1.below hbk).more hbk.size
            replace r2 := (r2.below hbk).more hbk.size
            replace r8 := (r8.below hbk).more hbk.size
            replace hB := below_trans hB (Nat.le_refl _) hbk
            clear hbk
            obtain ⟨pb8, po8, x8, rfl, -, g8, d8⟩ := r8.at_ (show l.length < X.length by omega)
            rw [HX3.out] at g8
            injection g8 with g8
            have hlX : (l.length : Int) < (X.length : Int) := by omega
            have hlXn : l.length < X.length := by omega
            have G8 := Lib.hid g8
            clear g8 r8 HX3 HX1 HL1 HQA HQB
            have hXb : ((X.length : Int) == (l.length : Int) + 2) = true := beq_iff_eq.2 (by omega)
            have hw2 : IntKind.i64.wrap ((l.length : Int) + 2) = (l.length : Int) + 2 := IntWalk.i64_in _ (by omega)
            have hab : (a = 0 ∧ b = 0) ∨ (a = 0 ∧ b = 1) ∨ (a = 0 ∧ b = 2) ∨ (a = 0 ∧ b = 3) ∨ (a = 1 ∧ b = 0) ∨ (a = 1 ∧ b = 1) ∨ (a = 1 ∧ b = 2) ∨ (a = 1 ∧ b = 3) ∨ (a = 2 ∧ b = 0) ∨ (a = 2 ∧ b = 1) ∨ (a = 2 ∧ b = 2) ∨ (a = 2 ∧ b = 3) ∨ (a = 3 ∧ b = 0) ∨ (a = 3 ∧ b = 1) ∨ (a = 3 ∧ b = 2) ∨ (a = 3 ∧ b = 3) := by omega
            rcases hab with ⟨rfl, rfl⟩ | ⟨rfl, rfl⟩ | ⟨rfl, rfl⟩ | ⟨rfl, rfl⟩ | ⟨rfl, rfl⟩ | ⟨rfl, rfl⟩ | ⟨rfl, rfl⟩ | ⟨rfl, rfl⟩ | ⟨rfl, rfl⟩ | ⟨rfl, rfl⟩ | ⟨rfl, rfl⟩ | ⟨rfl, rfl⟩ | ⟨rfl, rfl⟩ | ⟨rfl, rfl⟩ | ⟨rfl, rfl⟩ | ⟨rfl, rfl⟩
            · have e : x8 = 1 := G8.out.symm
              subst e
              clear G8
              go_wp2
              go_quiet (fail)
              go_wp2
              go_ret
              exact ⟨rfl, below_drewN hB _⟩
            · have e : x8 = 3 := G8.out.symm
              subst e
              clear G8
              go_wp2
              go_quiet (fail)
              go_wp2
              go_ret
              exact ⟨rfl, below_drewN hB _⟩
            · have e : x8 = 5 := G8.out.symm
              subst e
              clear G8
              go_wp2
              go_quiet (fail)
              go_wp2
              go_ret
              exact ⟨rfl, below_drewN hB _⟩
            · have e : x8 = 9 := G8.out.symm
              subst e
              clear G8
              go_wp2
              go_quiet (fail)
              go_wp2
              go_ret
              exact ⟨rfl, below_drewN hB _⟩
            · have e : x8 = 3 := G8.out.symm
              subst e
              clear G8
              go_wp2
              go_quiet (fail)
              go_wp2
              go_ret
              exact ⟨rfl, below_drewN hB _⟩
            · have e : x8 = 2 := G8.out.symm
              subst e
              clear G8
              go_wp2
              go_quiet (fail)
              go_wp2
              go_ret
              exact ⟨rfl, below_drewN hB _⟩
            · have e : x8 = 6 := G8.out.symm
              subst e
              clear G8
              go_wp2
              go_quiet (fail)
              go_wp2
              go_ret
              exact ⟨rfl, below_drewN hB _⟩
            · have e : x8 = 10 := G8.out.symm
              subst e
              clear G8
              go_wp2
              go_quiet (fail)
              go_wp2
              go_ret
              exact ⟨rfl, below_drewN hB _⟩
            · have e : x8 = 5 := G8.out.symm
              subst e
              clear G8
              go_wp2
              go_quiet (fail)
              go_wp2
              go_ret
              exact ⟨rfl, below_drewN hB _⟩
            · have e : x8 = 6 := G8.out.symm
              subst e
              clear G8
              go_wp2
              go_quiet (fail)
              go_wp2
              go_ret
              exact ⟨rfl, below_drewN hB _⟩
            · have e : x8 = 4 := G8.out.symm
              subst e
              clear G8
              go_wp2
              go_quiet (fail)
              go_wp2
              go_ret
              exact ⟨rfl, below_drewN hB _⟩
            · have e : x8 = 12 := G8.out.symm
              subst e
              clear G8
              go_wp2
              go_quiet (fail)
              go_wp2
              go_ret
              exact ⟨rfl, below_drewN hB _⟩
            · have e : x8 = 9 := G8.out.symm
              subst e
              clear G8
              go_wp2
              go_quiet (fail)
              go_wp2
              go_ret
              exact ⟨rfl, below_drewN hB _⟩
            · have e : x8 = 10 := G8.out.symm
              subst e
              clear G8
              go_wp2
              go_quiet (fail)
              go_wp2
              go_ret
              exact ⟨rfl, below_drewN hB _⟩
            · have e : x8 = 12 := G8.out.symm
              subst e
              clear G8
              go_wp2
              go_quiet (fail)
              go_wp2
              go_ret
              exact ⟨rfl, below_drewN hB _⟩
            · have e : x8 = 8 := G8.out.symm
              subst e
              clear G8
              go_wp2
              go_quiet (fail)
              go_wp2
              go_ret
              exact ⟨rfl, below_drewN hB _⟩
end Go.Proofs.Ytcaibhjdahmjeaa
