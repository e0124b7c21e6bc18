/- FnPlaceCounts: BlockAround of the program, the walk of the law. -/
import Derived.Test.YtfgbbajkdpideaaRunD
import Derived.Test.YtfgbbajkdpideaaILock8
import Derived.Test.YtfgbbajkdpideaaBlkA
import Derived.Test.YtfgbbajkdpideaaTopLaw
namespace Go.Proofs.Ytfgbbajkdpideaa
open Go.RowKit
set_option linter.unusedVariables false
set_option linter.unusedSimpArgs false

set_option maxRecDepth 100000 in
set_option maxHeartbeats 4000000 in
theorem iBlockAround_c (A : Option Addr) (c : Nat) (l : List Cd) (k : Nat) (w : World) (hA : RdC w w.heap.size A l) (hp : pv l = true) (hk : k < l.length) :
    Calls Try.prog 17 #[.slice A l.length c, .int .i64 k] w fun e w' => e = .returned (.int .i64 (aroundOf l k)) ∧ Below w.heap.size w w' := by
  have h40 := (pv_iff.1 hp).1
  have HP := Lib.hid hp
  have hin := inR_iff.2 (show (0 : Int) ≤ (k : Int) ∧ (k : Int) ≤ (l.length : Int) - 1 by omega)
  have HIN := Lib.hid hin
  have hw1 : IntKind.i64.wrap ((l.length : Int) - 1) = (l.length : Int) - 1 := IntWalk.i64_in _ (by omega)
  have hkI : (k : Int) < (l.length : Int) := by omega
  clear hin
  go_enter Try.func17, Try.ntmps17
  go_wp2_with fail
  refine (iProgramValid_c A c l w hA (by omega)).mono ?_
  rintro e w1 ⟨rfl, b1⟩
  rw [hp]
  clear hp
  go_wp2_with fail
  refine (within_c k 0 ((l.length : Int) - 1) w1).mono ?_
  rintro e w1' ⟨rfl, rfl⟩
  rw [HIN.out]
  go_wp2_with fail
  refine (blocksA_c A c l w1 ((hA.below b1).more b1.size) (by omega) (pv_all HP.out)).mono ?_
  rintro e w2 ⟨b2, ⟨_, rfl, ga, oth, en, As, cs, hW, hPI, hAro⟩ | ⟨hno, _⟩⟩
  case inr => exact absurd (pv_iff.1 HP.out).2 hno
  have b3 := below_trans b1 (Nat.le_refl _) b2
  obtain ⟨A2, n2, c2, hc, hn23, ⟨rfl, e2⟩ | ⟨g, p, cur, rfl, e2, e3, e4, e5, e6, e7, e8, e9⟩⟩ := hAro k hk
  · have HE := Lib.hid e2
    clear hW hPI hAro e2
    go_wp2
    go_ret
    exact ⟨by rw [HE.out]; rfl, b3⟩
  · have HE := Lib.hid e3
    obtain ⟨q1, q2⟩ := hW.blk p (by omega) e5
    have d0 : w2.cell? ⟨ga p, 0, none⟩ = some (.int .i64 p) := cell_of_heap q2 0
    have d1 : w2.cell? ⟨g, n2 - 1, none⟩ = some (.pointer (some ⟨ga p, 0, none⟩)) := by
      rw [cell_of_row w2 g (n2 - 1) cur 71 (0, 0) e8, e9]; rfl
    obtain ⟨n3, rfl⟩ : ∃ n3, n2 = n3 + 1 := ⟨n2 - 1, by omega⟩
    rw [Nat.add_sub_cancel] at d1
    have hw2 : IntKind.i64.wrap ((n3 : Int) + 1 - 1) = (n3 : Int) := by rw [IntWalk.i64_in _ (by omega)]; omega
    clear hW hPI hAro e2 e3 e4 e5 e6 e7 e8 e9 q1 q2
    go_wp2
    go_ret
    exact ⟨by rw [HE.out]; rfl, b3⟩

theorem counts_bad {l : List Cd} {n : Int} {m : List Int} (h : lockOk l n m = false) : (countsL l n m).length = 0 := by
  unfold countsL; rw [h]; rfl
theorem scan_val (l : List Cd) : ∀ n d, scanA l n d = -1 ∨ ∃ q : Nat, scanA l n d = (q : Int)
  | 0, _ => .inl rfl
  | n + 1, d => by
    simp only [scanA]
    cases l[n]? with
    | none => exact .inl rfl
    | some x =>
      simp only
      split
      · cases d with
        | zero => exact .inr ⟨n, rfl⟩
        | succ d => exact scan_val l n d
      · split
        · exact scan_val l n _
        · exact scan_val l n _
theorem counts_all {l : List Cd} {n : Int} {m : List Int} (h : lockOk l n m = true) : pv l = true ∧ l.length ≤ 40 ∧ (countsL l n m).length = l.length ∧ (∀ k, k < l.length → ∃ cc : Nat, (countsL l n m)[k]? = some (cc : Int) ∧ cc ≤ 2560 ∧ sumTo (countAt (traceOf l n m)) (k + 1) = sumTo (countAt (traceOf l n m)) k + cc ∧ (aroundOf l k = -1 → cc = 1)) ∧
    (∀ k, k ≤ l.length → sumTo (countAt (traceOf l n m)) k ≤ 2560) ∧ sumTo (countAt (traceOf l n m)) l.length = (traceOf l n m).length := by
  obtain ⟨h1, h2, h3, h4, h5, h6, h7⟩ := counts_law h
  rw [h1, countRow_len]
  exact ⟨h3, h2, rfl, fun k hk => ⟨countAt (traceOf l n m) k, countRow_get _ hk, h7 k, rfl, fun ha => h4 k hk ha⟩, h6, h5⟩

set_option maxRecDepth 100000 in
set_option maxHeartbeats 8000000 in
theorem fnPlaceCounts_c (w : World) (A : Option Addr) (c : Nat) (bs : List Int) (hA : Reads w w.heap.size 1 A bs.length (bs.map (.int .u8))) (hl : bs.length ≤ 9223372036854775807) (hb : ∀ x ∈ bs, 0 ≤ x ∧ x ≤ 255) (hcap : bs.length ≤ c) :
    Calls Try.prog 4 #[.slice A bs.length c] w fun e w' => e = .returned (.bool true) ∧ Below w.heap.size w w' := by
  by_cases hbig0 : 1048576 < bs.length
  · go_enter Try.func4, Try.ntmps4
    go_wp2
    go_ret
    exact ⟨rfl, Below.refl _ _⟩
  · go_enter Try.func4, Try.ntmps4
    go_wp2_with fail
    refine (drawPlaceCounts_c A c bs w hA hb hl hcap).mono ?_
    rintro e w1 ⟨l, A1, c1, n, m, Am, cm, rfl, hl2, hm40, hn9, r1, rM, hB⟩
    have HCB := Lib.hid (fun h : lockOk l n m = false => counts_bad h)
    have HCA := Lib.hid (fun h : lockOk l n m = true => counts_all h)
    have hCl := countsL_len l n m
    have HI := Lib.hid (fun W h h2 => iPlaceCounts_c A1 Am c1 cm l n m W h h2 (by omega) (by omega))
    have HS := Lib.hid (fun W h h2 => sPlaceCounts_c A1 Am c1 cm l n m W h h2 (by omega) (by omega))
    have HT := Lib.hid (fun W h h2 => iLockTrace_c A1 Am c1 cm l n m W h h2 (by omega) (by omega))
    generalize countsL l n m = C at *
    have HSF := Lib.hid (show sumTo (countAt (traceOf l n m)) 0 = 0 from rfl)
    generalize sumTo (countAt (traceOf l n m)) = sf at *
    generalize (traceOf l n m).length = tl at *
    go_wp2_with fail
    refine (HI.out w1 r1 rM).mono ?_
    rintro e w2 ⟨A2, c2, rfl, o2, b2⟩
    replace r1 := (r1.below b2).more b2.size
    replace rM := (rM.below b2).more b2.size
    replace hB := below_trans hB (Nat.le_refl _) b2
    clear b2
    have r2 := OwI.rd o2
    go_wp2_with fail
    refine (HS.out w2 r1 rM).mono ?_
    rintro e w3 ⟨A3, c3, rfl, o3, b3⟩
    replace r1 := (r1.below b3).more b3.size
    replace rM := (rM.below b3).more b3.size
    replace r2 := (r2.below b3).more b3.size
    replace hB := below_trans hB (Nat.le_refl _) b3
    clear b3
    have r3 := OwI.rd o3
    clear HI HS o2 o3
    go_wp2_with fail
    refine (sameInts_c A2 A3 c2 c3 _ w3 r2 r3 (by omega)).mono ?_
    rintro e w4 ⟨rfl, b4⟩
    replace r1 := (r1.below b4).more b4.size
    replace rM := (rM.below b4).more b4.size
    replace r2 := (r2.below b4).more b4.size
    replace r3 := (r3.below b4).more b4.size
    replace hB := below_trans hB (Nat.le_refl _) b4
    clear b4
    clear r3
    go_wp2_with fail
    refine (runs_c A1 Am c1 cm l n m w4 r1 rM (by omega) (by omega)).mono ?_
    rintro e w5 ⟨rfl, b5⟩
    replace r1 := (r1.below b5).more b5.size
    replace rM := (rM.below b5).more b5.size
    replace r2 := (r2.below b5).more b5.size
    replace hB := below_trans hB (Nat.le_refl _) b5
    clear b5
    cases hok : lockOk l n m with
    | false =>
      rw [HCB.out hok]
      go_wp2_with fail
      refine (alive_c _).mono ?_
      rintro e wz ⟨rfl, rfl⟩
      go_wp2
      go_ret
      exact ⟨rfl, hB⟩
    | true =>
      obtain ⟨hp, hl40, hCe, hC1, hC2, hC3⟩ := HCA.out hok
      have HP := Lib.hid hp
      have HC1 := Lib.hid hC1
      have HC2 := Lib.hid hC2
      have HC3 := Lib.hid (show sf C.length = tl by rw [hCe]; exact hC3)
      have HCb := Lib.hid (show ((C.length : Int) == (l.length : Int)) = true by rw [hCe]; simp)
      have hCa : l.length ≤ C.length := by omega
      have HS0 := HSF
      clear hok hp hC1 hC2 hC3 hCe HCA HCB
      go_wp2
      go_loopw [7, 8] (fun sv kv wr => ∃ k : Nat, k ≤ C.length ∧ kv = .int .i64 k ∧ sv = .int .i64 (sf k) ∧ Below w5.heap.size w5 wr) (fun _ kv _ => C.length - (intOf kv).toNat)
      case atStart => exact ⟨0, Nat.zero_le _, rfl, by rw [HS0.out]; rfl, Below.refl _ _⟩
      case round =>
        obtain ⟨k, hk, rfl, rfl, hbk⟩ := hrel
        obtain ⟨ow, how⟩ : ∃ z, z = wr := ⟨wr, rfl⟩
        subst how
        by_cases hlt : k < C.length
        · have hkI : (k : Int) < (C.length : Int) := by omega
          have hkl : k < l.length := by omega
          replace r1 := (r1.below hbk).more hbk.size
          replace r2 := (r2.below hbk).more hbk.size
          obtain ⟨cc, hcc, hc25, hst, har⟩ := HC1.out k hkl
          obtain ⟨pb, po, u, rfl, -, g1, d1⟩ := r2.at_ hlt
          rw [hcc] at g1
          injection g1 with g1
          subst g1
          have hs25 := HC2.out (k + 1) (by omega)
          rw [hst] at hs25
          have HST := Lib.hid hst
          have HAR := Lib.hid har
          have HV := Lib.hid (scan_val l k 0)
          have hws : IntKind.i64.wrap ((sf k : Int) + (cc : Int)) = (sf k : Int) + (cc : Int) := IntWalk.i64_in _ (by omega)
          clear hcc hst har r2
          generalize hsk : sf k = s0 at *
          clear hsk
          go_wp2_with fail
          refine (iBlockAround_c A1 c1 l k ow r1 HP.out hkl).mono ?_
          rintro e w9 ⟨rfl, b9⟩
          have d9 := cell_kept b9 d1
          have hb9 := below_trans hbk (Nat.le_refl _) b9
          clear d1 r1
          rcases HV.out with hv | ⟨q, hv⟩
          · obtain rfl : cc = 1 := HAR.out hv
            have hv2 : aroundOf l k = -1 := hv
            rw [hv2]
            clear hv hv2 HV HAR
            go_wp2
            go_roundw
            case rel => exact ⟨k + 1, by omega, by go_num, by rw [HST.out]; simp, hb9⟩
            case measure => (simp [intOf] <;> omega)
          · have hv2 : aroundOf l k = (q : Int) := hv
            rw [hv2]
            have hq : ((q : Int) == -1) = false := beq_eq_false_iff_ne.2 (by omega)
            clear hv hv2 HV HAR
            go_wp2
            go_roundw
            case rel => exact ⟨k + 1, by omega, by go_num, by rw [HST.out]; simp, hb9⟩
            case measure => (simp [intOf] <;> omega)
        · obtain rfl : k = C.length := by omega
          rw [HC3.out]
          clear hk hlt HC1 HC2 HC3 hCa
          replace r1 := (r1.below hbk).more hbk.size
          replace rM := (rM.below hbk).more hbk.size
          replace r2 := (r2.below hbk).more hbk.size
          replace hB := below_trans hB (Nat.le_refl _) hbk
          clear hbk
          have hCb := HCb.out
          have htt : ((tl : Int) == (tl : Int)) = true := by simp
          go_wp2_with fail
          refine (HT.out ow r1 rM).mono ?_
          rintro e w6 ⟨⟨T, tc, rfl⟩, b6⟩
          replace r1 := (r1.below b6).more b6.size
          replace rM := (rM.below b6).more b6.size
          replace r2 := (r2.below b6).more b6.size
          replace hB := below_trans hB (Nat.le_refl _) b6
          clear b6
          go_wp2
          go_ret
          exact ⟨rfl, hB⟩
end Go.Proofs.Ytfgbbajkdpideaa
