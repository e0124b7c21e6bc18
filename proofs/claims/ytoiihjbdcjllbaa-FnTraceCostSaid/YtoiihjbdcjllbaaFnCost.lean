/- FnTraceCost: the walk of the law. -/
import Derived.Test.YtoiihjbdcjllbaaRunD
import Derived.Test.YtoiihjbdcjllbaaILock8
import Derived.Test.YtoiihjbdcjllbaaCost
import Derived.Test.YtoiihjbdcjllbaaTopLaw
import Derived.Test.YtoiihjbdcjllbaaSame
import Derived.Deep.RegionLaw
namespace Go.Proofs.Ytoiihjbdcjllbaa
open Go.RowKit
set_option linter.unusedVariables false
set_option linter.unusedSimpArgs false

theorem sumTo_mono (f : Nat → Nat) (k : Nat) : ∀ n, k ≤ n → sumTo f k ≤ sumTo f n
  | 0, h => by obtain rfl : k = 0 := by omega
               exact Nat.le_refl _
  | n + 1, h => by
    by_cases e : k = n + 1
    · rw [e]; exact Nat.le_refl _
    · have := sumTo_mono f k n (by omega)
      simp only [sumTo]; omega
theorem tcost_all {l : List Cd} {n : Int} {m : List Int} (h : lockOk l n m = true) : ∃ (k : Nat) (f : Nat → Nat) (co : Nat), n = (k : Int) ∧ k ≤ 8 ∧ l.length ≤ 40 ∧ (countsL l n m).length = l.length ∧ costL l n m = (co : Int) ∧ co ≤ 10240 ∧ sumTo f l.length = co ∧ (∀ j, j < l.length → ∃ cc : Nat, (countsL l n m)[j]? = some (cc : Int) ∧ cc ≤ 2560 ∧ ∃ x, l[j]? = some x ∧ costI x = (costN x : Int) ∧ costN x ≤ 4 ∧ sumTo f (j + 1) = sumTo f j + cc * costN x) ∧ (∀ j, j ≤ l.length → sumTo f j ≤ 10240) ∧ (∀ j, costOf l (2 ^ j) (traceOf l n m) ≤ co) := by
  obtain ⟨h1, h2, h3, h4, h5, h6, h7⟩ := counts_law h
  have h' := h
  simp only [lockOk, Bool.and_eq_true] at h'
  have hk1 := (inR_iff.1 h'.2.1).1
  have hk8 := (inR_iff.1 h'.2.1).2
  obtain ⟨e1, e2⟩ := cost_law h
  have hc : costOf l (2 ^ n.toNat - 1) (traceOf l n m) ≤ 10240 := by
    have := costOf_le l (2 ^ n.toNat - 1) (traceOf l n m)
    have := traceOf_len l n m
    omega
  refine ⟨n.toNat, fun k => countAt (traceOf l n m) k * costN (cdAt l k), costOf l (2 ^ n.toNat - 1) (traceOf l n m), by omega, by omega, h2, by rw [h1, countRow_len], by simp [costL, h], hc, e1, fun j hj => ?_, fun j hj => ?_, e2⟩
  · rw [h1]
    refine ⟨countAt (traceOf l n m) j, countRow_get _ hj, h7 j, l[j], List.getElem?_eq_getElem hj, ?_, costN_le _, ?_⟩
    · simp [costI, pv_all h3 l[j] (List.getElem_mem hj)]
    · simp only [sumTo]
      rw [show cdAt l j = l[j] by simp [cdAt, List.getElem?_eq_getElem hj]]
  · have := sumTo_mono (fun k => countAt (traceOf l n m) k * costN (cdAt l k)) j l.length hj
    omega
theorem counts_no {l : List Cd} {n : Int} {m : List Int} (h : lockOk l n m = false) : costL l n m = -1 := by simp [costL, h]

set_option maxRecDepth 100000 in
set_option maxHeartbeats 8000000 in
theorem fnTraceCost_c (w : World) (A : Option Addr) (c : Nat) (bs : List Int) (hA : Reads w w.heap.size 1 A bs.length (bs.map (.int .u8))) (hl : bs.length ≤ 9223372036854775807) (hb : ∀ x ∈ bs, 0 ≤ x ∧ x ≤ 255) (hcap : bs.length ≤ c) :
    Calls Try.prog 3 #[.slice A bs.length c] w fun e w' => e = .returned (.bool true) ∧ Below w.heap.size w w' := by
  by_cases hbig0 : 1048576 < bs.length
  · go_enter Try.func3, Try.ntmps3
    go_wp2
    go_ret
    exact ⟨rfl, Below.refl _ _⟩
  · go_enter Try.func3, Try.ntmps3
    go_wp2_with fail
    refine (drawTraceCost_c A c bs w hA hb hl hcap).mono ?_
    rintro e w1 ⟨l, A1, c1, n, m, Am, cm, rfl, hl2, hm40, hn9, r1, rM, hB⟩
    have HCB := Lib.hid (fun h : lockOk l n m = false => counts_no h)
    have HCA := Lib.hid (fun h : lockOk l n m = true => tcost_all h)
    have HI := Lib.hid (fun W h h2 => iPlaceCounts_c A1 Am c1 cm l n m W h h2 (by omega) (by omega))
    have HLC := Lib.hid (fun (j : Nat) (W : World) => iLaneCost_c A1 Am c1 cm l j m)
    go_wp2_with fail
    refine (iTraceCost_c A1 Am c1 cm l n m w1 r1 rM (by omega) (by omega)).mono ?_
    rintro e w2 ⟨rfl, b2⟩
    replace r1 := (r1.below b2).more b2.size
    replace rM := (rM.below b2).more b2.size
    replace hB := below_trans hB (Nat.le_refl _) b2
    clear b2
    generalize hcv : costL l n m = cv at *
    go_wp2_with fail
    refine (sTraceCost_c A1 Am c1 cm l n m w2 r1 rM (by omega) (by omega)).mono ?_
    rintro e w3 ⟨rfl, b3⟩
    replace r1 := (r1.below b3).more b3.size
    replace rM := (rM.below b3).more b3.size
    replace hB := below_trans hB (Nat.le_refl _) b3
    clear b3
    rw [hcv]
    cases hok : lockOk l n m with
    | false =>
      obtain rfl : cv = -1 := HCB.out hok
      clear hcv HCB HCA HI HLC
      go_wp2_with fail
      refine (alive_c _).mono ?_
      rintro e wz ⟨rfl, rfl⟩
      go_wp2
      go_ret
      exact ⟨rfl, hB⟩
    | true =>
      obtain ⟨k9, f, co, rfl, hk8, hl40, hCe, hco, hco2, hfl, hC1, hC2, hC3⟩ := HCA.out hok
      obtain rfl : cv = (co : Int) := hco
      have HOK := Lib.hid hok
      have HC1 := Lib.hid hC1
      have HC2 := Lib.hid hC2
      have HC3 := Lib.hid hC3
      have HFL := Lib.hid hfl
      have hCa : l.length ≤ (countsL l (k9 : Int) m).length := by omega
      have hCb : (countsL l (k9 : Int) m).length ≤ l.length := by omega
      clear hok hfl hCe HCA HCB hC1 hC2 hC3 HLC
      generalize countsL l (k9 : Int) m = C at *
      have HS0 := Lib.hid (show sumTo f 0 = 0 from rfl)
      generalize sumTo f = sf at *
      go_wp2_with fail
      refine (HI.out w3 r1 rM).mono ?_
      rintro e w4 ⟨A2, c2, rfl, o2, b4⟩
      replace r1 := (r1.below b4).more b4.size
      replace rM := (rM.below b4).more b4.size
      replace hB := below_trans hB (Nat.le_refl _) b4
      clear b4
      have r2 := OwI.rd o2
      clear o2 HI
      go_wp2
      go_loopw [8, 9] (fun sv kv wr => ∃ k : Nat, k ≤ C.length ∧ kv = .int .i64 k ∧ sv = .int .i64 (sf k) ∧ Below w4.heap.size w4 wr) (fun _ kv _ => C.length - (intOf kv).toNat)
      case atStart => exact ⟨0, Nat.zero_le _, rfl, by rw [HS0.out]; rfl, Below.refl _ _⟩
      case round =>
        obtain ⟨k, hk, rfl, rfl, hbk⟩ := hrel
        obtain ⟨ow, how⟩ : ∃ z, z = wr := ⟨wr, rfl⟩
        subst how
        by_cases hlt : k < C.length
        · have hkI : (k : Int) < (C.length : Int) := by omega
          have hkl : k < l.length := by omega
          have hkI2 : (k : Int) < (l.length : Int) := by omega
          replace r1 := (r1.below hbk).more hbk.size
          replace r2 := (r2.below hbk).more hbk.size
          obtain ⟨cc, hcc, hc25, x, hx, hxc, hx4, hst⟩ := HC1.out k hkl
          obtain ⟨pb, po, u, rfl, hpB, g1, d1⟩ := r2.at_ hlt
          rw [hcc] at g1
          injection g1 with g1
          subst g1
          obtain ⟨lb, lo, y, rfl, hlB, hy, l0, l1, l2, l3⟩ := r1.at_ hkl
          rw [hx] at hy
          injection hy with hy
          subst hy
          have hs25 := HC2.out (k + 1) (by omega)
          rw [hst] at hs25
          have HST := Lib.hid hst
          have HXC := Lib.hid hxc
          have hmul : cc * costN x ≤ 2560 * 4 := Nat.mul_le_mul hc25 hx4
          have hwm : IntKind.i64.wrap ((cc : Int) * (costN x : Int)) = ((cc * costN x : Nat) : Int) := by
            rw [show ((cc : Int) * (costN x : Int)) = ((cc * costN x : Nat) : Int) by push_cast; rfl]
            exact IntWalk.i64_in _ (by omega)
          generalize cc * costN x = pr at *
          have hws : IntKind.i64.wrap ((sf k : Int) + (pr : Int)) = (sf k : Int) + (pr : Int) := IntWalk.i64_in _ (by omega)
          clear hcc hst r2 hxc hx r1
          generalize hsk : sf k = s0 at *
          clear hsk
          go_wp2_with fail
          go_region_law (go_simp; go_at_call 14; refine (iCodeCost_c x _).mono ?_; rintro e w9 ⟨rfl, b9⟩; rw [HXC.out]; have d9 := cell_kept b9 (show ow.drew.cell? _ = some _ from d1))
          all_goals
            have hb9 := below_trans hbk.drew (Nat.le_refl _) b9
            clear HXC
            go_wp2
            refine ⟨⟨k + 1, by omega, by go_num, by rw [HST.out]; simp, hb9⟩, ?_⟩
            (simp [intOf] <;> omega)
        · obtain rfl : k = C.length := by omega
          rw [show sf C.length = co by rw [show C.length = l.length by omega]; exact HFL.out]
          clear hk hlt HC1 HC2 HFL hCa hCb HS0
          replace r1 := (r1.below hbk).more hbk.size
          replace rM := (rM.below hbk).more hbk.size
          replace r2 := (r2.below hbk).more hbk.size
          replace hB := below_trans hB (Nat.le_refl _) hbk
          clear hbk
          clear r2
          go_wp2
          go_loopw [10] (fun kv wr => ∃ k : Nat, k ≤ k9 ∧ kv = .int .i64 k ∧ Below ow.heap.size ow wr) (fun kv _ => k9 - (intOf kv).toNat)
          case atStart => exact ⟨0, Nat.zero_le _, rfl, Below.refl _ _⟩
          case round =>
            obtain ⟨k, hk, rfl, hbk⟩ := hrel
            obtain ⟨ow2, how⟩ : ∃ z, z = wr := ⟨wr, rfl⟩
            subst how
            by_cases hlt : k < k9
            · have hkI : (k : Int) < (k9 : Int) := by omega
              replace r1 := (r1.below hbk).more hbk.size
              replace rM := (rM.below hbk).more hbk.size
              have hle := HC3.out k
              go_wp2_with fail
              refine (iLaneCost_c A1 Am c1 cm l k9 m k ow2 r1 rM (by omega) (by omega) HOK.out hlt).mono ?_
              rintro e w19 ⟨rfl, b19⟩
              have hb19 := below_trans hbk (Nat.le_refl _) b19
              clear r1 rM
              generalize costOf l (2 ^ k) (traceOf l (k9 : Int) m) = lc at *
              have hgt : ((co : Int) < (lc : Int)) = False := by simp; omega
              go_wp2
              go_roundw
              case rel => exact ⟨k + 1, by omega, by go_num, hb19⟩
              case measure => (simp [intOf] <;> omega)
            · obtain rfl : k = k9 := by omega
              have hcc : ((co : Int) == (co : Int)) = true := by simp
              clear hk hlt HC3 HOK
              replace r1 := (r1.below hbk).more hbk.size
              replace rM := (rM.below hbk).more hbk.size
              replace hB := below_trans hB (Nat.le_refl _) hbk
              clear hbk
              go_wp2
              go_ret
              exact ⟨rfl, hB⟩
end Go.Proofs.Ytoiihjbdcjllbaa
