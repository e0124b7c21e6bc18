/- FnLiveSets: BlockAround and GraphOf of the program, the walk of the law. -/
import Derived.Test.YtcaibhjdahmjeaaSame
import Derived.Test.YtcaibhjdahmjeaaLiveB
import Derived.Test.YtcaibhjdahmjeaaLiveLaw
import Derived.Test.YtcaibhjdahmjeaaBlkA
import Derived.Test.YtcaibhjdahmjeaaReads
namespace Go.Proofs.Ytcaibhjdahmjeaa
open Go.RowKit
set_option linter.unusedVariables false
set_option linter.unusedSimpArgs false

set_option maxRecDepth 100000 in
set_option maxHeartbeats 4000000 in
theorem iBlockAround_c (A : Option Addr) (c : Nat) (l : List Cd) (k : Nat) (w : World) (hA : RdC w w.heap.size A l) (hp : pv l = true) (hk : k < l.length) :
    Calls Try.prog 60 #[.slice A l.length c, .int .i64 k] w fun e w' => e = .returned (.int .i64 (aroundOf l k)) ∧ Below w.heap.size w w' := by
  have h40 := (pv_iff.1 hp).1
  have HP := Lib.hid hp
  have hin := inR_iff.2 (show (0 : Int) ≤ (k : Int) ∧ (k : Int) ≤ (l.length : Int) - 1 by omega)
  have HIN := Lib.hid hin
  have hw1 : IntKind.i64.wrap ((l.length : Int) - 1) = (l.length : Int) - 1 := IntWalk.i64_in _ (by omega)
  have hkI : (k : Int) < (l.length : Int) := by omega
  clear hin
  go_enter Try.func60, Try.ntmps60
  go_wp2_with fail
  refine (iProgramValid_c A c l w hA (by omega)).mono ?_
  rintro e w1 ⟨rfl, b1⟩
  rw [hp]
  clear hp
  go_wp2_with fail
  refine (within_c k 0 ((l.length : Int) - 1) w1).mono ?_
  rintro e w1' ⟨rfl, rfl⟩
  rw [HIN.out]
  go_wp2_with fail
  refine (blocksA_c A c l w1 ((hA.below b1).more b1.size) (by omega) (pv_all HP.out)).mono ?_
  rintro e w2 ⟨b2, ⟨_, rfl, ga, oth, en, As, cs, hW, hPI, hAro⟩ | ⟨hno, _⟩⟩
  case inr => exact absurd (pv_iff.1 HP.out).2 hno
  have b3 := below_trans b1 (Nat.le_refl _) b2
  obtain ⟨A2, n2, c2, hc, hn23, ⟨rfl, e2⟩ | ⟨g, p, cur, rfl, e2, e3, e4, e5, e6, e7, e8, e9⟩⟩ := hAro k hk
  · have HE := Lib.hid e2
    clear hW hPI hAro e2
    go_wp2
    go_ret
    exact ⟨by rw [HE.out]; rfl, b3⟩
  · have HE := Lib.hid e3
    obtain ⟨q1, q2⟩ := hW.blk p (by omega) e5
    have d0 : w2.cell? ⟨ga p, 0, none⟩ = some (.int .i64 p) := cell_of_heap q2 0
    have d1 : w2.cell? ⟨g, n2 - 1, none⟩ = some (.pointer (some ⟨ga p, 0, none⟩)) := by
      rw [cell_of_row w2 g (n2 - 1) cur 93 (0, 0) e8, e9]; rfl
    obtain ⟨n3, rfl⟩ : ∃ n3, n2 = n3 + 1 := ⟨n2 - 1, by omega⟩
    rw [Nat.add_sub_cancel] at d1
    have hw2 : IntKind.i64.wrap ((n3 : Int) + 1 - 1) = (n3 : Int) := by rw [IntWalk.i64_in _ (by omega)]; omega
    clear hW hPI hAro e2 e3 e4 e5 e6 e7 e8 e9 q1 q2
    go_wp2
    go_ret
    exact ⟨by rw [HE.out]; rfl, b3⟩


set_option maxRecDepth 100000 in
theorem iGraphOfV_c (A : Option Addr) (c : Nat) (l : List Cd) (w : World) (hA : RdC w w.heap.size A l) (hp : pv l = true) :
    Calls Try.prog 58 #[.slice A l.length c] w fun e w' => ∃ (B : Option Addr) (d : Nat), e = .returned (.slice B (l.length + 1) d) ∧ GRd w' w'.heap.size B (succI l) (l.length + 1) ∧ Below w.heap.size w w' := by
  have HP := Lib.hid hp
  have h40 := (pv_iff.1 hp).1
  go_enter Try.func58, Try.ntmps58
  go_wp2_with fail
  refine (iProgramValid_c A c l w hA (by omega)).mono ?_
  rintro e w1 ⟨rfl, hb1⟩
  rw [hp]
  clear hp
  go_wp2_with fail
  refine (iGraphOf_c A c l w1 ((hA.below hb1).more hb1.size) HP.out).mono ?_
  rintro e w2 ⟨A2, c2, rfl, h2, hb2⟩
  go_wp2
  go_ret
  exact ⟨A2, c2, rfl, h2.rd, below_trans hb1 (Nat.le_refl _) hb2⟩

set_option maxRecDepth 100000 in
set_option maxHeartbeats 8000000 in
theorem fnLiveSets_c (w : World) (A : Option Addr) (c : Nat) (bs : List Int) (hA : Reads w w.heap.size 1 A bs.length (bs.map (.int .u8))) (hl : bs.length ≤ 9223372036854775807) (hb : ∀ x ∈ bs, 0 ≤ x ∧ x ≤ 255) (hcap : bs.length ≤ c) :
    Calls Try.prog 13 #[.slice A bs.length c] w fun e w' => e = .returned (.bool true) ∧ Below w.heap.size w w' := by
  by_cases hbig0 : 1048576 < bs.length
  · go_enter Try.func13, Try.ntmps13
    go_wp2
    go_ret
    exact ⟨rfl, Below.refl _ _⟩
  · go_enter Try.func13, Try.ntmps13
    go_wp2_with fail
    refine (drawLiveSets_c A c bs w hA hb hl hcap).mono ?_
    rintro e w1 ⟨l, A1, c1, rfl, hl2, o1, hB⟩
    have r1 := OC.rd o1
    clear o1
    cases hp : pv l with
    | false =>
      have HE := Lib.hid (show lsL l = [] by simp [lsL, hp])
      have HI := Lib.hid (fun W (h : RdC W W.heap.size A1 l) => iLiveSetsA_c A1 c1 l W h (by omega))
      have HS := Lib.hid (fun W (h : RdC W W.heap.size A1 l) => sLiveSetsA_c A1 c1 l W h (by omega))
      rw [HE.out] at HI HS
      have HPV := Lib.hid (fun W h => sProgramValid_c A1 c1 l W h (by omega))
      rw [hp] at HPV
      clear hp
      go_wp2_with fail
      refine (HI.out w1 r1).mono ?_
      rintro e w2 ⟨A2, c2, rfl, o2, b2⟩
      replace r1 := (r1.below b2).more b2.size
      replace hB := below_trans hB (Nat.le_refl _) b2
      clear b2
      have r2 := OwI.rd o2
      go_wp2_with fail
      refine (HS.out w2 r1).mono ?_
      rintro e w3 ⟨A3, c3, rfl, o3, b3⟩
      replace r1 := (r1.below b3).more b3.size
      replace r2 := (r2.below b3).more b3.size
      replace hB := below_trans hB (Nat.le_refl _) b3
      clear b3
      have r3 := OwI.rd o3
      clear HI HS o2 o3
      go_wp2_with fail
      refine (sameInts_c A2 A3 c2 c3 _ w3 r2 r3 (by simp)).mono ?_
      rintro e w4 ⟨rfl, b4⟩
      replace r1 := (r1.below b4).more b4.size
      replace r2 := (r2.below b4).more b4.size
      replace r3 := (r3.below b4).more b4.size
      replace hB := below_trans hB (Nat.le_refl _) b4
      clear b4
      clear r3
      go_wp2_with fail
      refine (HPV.out w4 r1).mono ?_
      rintro e w5 ⟨rfl, b5⟩
      replace r1 := (r1.below b5).more b5.size
      replace r2 := (r2.below b5).more b5.size
      replace hB := below_trans hB (Nat.le_refl _) b5
      clear b5
      go_wp2_with fail
      refine (alive_c _).mono ?_
      rintro e wz ⟨rfl, rfl⟩
      go_wp2
      go_ret
      exact ⟨rfl, hB⟩
    | true =>
      have hl40 := (pv_iff.1 hp).1
      have hF := fix_is hp
      have HE := Lib.hid (show lsL l = lvRow (liveFix l) (l.length + 1) by simp [lsL, hp])
      have HI := Lib.hid (fun W (h : RdC W W.heap.size A1 l) => iLiveSetsA_c A1 c1 l W h (by omega))
      have HS := Lib.hid (fun W (h : RdC W W.heap.size A1 l) => sLiveSetsA_c A1 c1 l W h (by omega))
      rw [HE.out] at HI HS
      have HPV := Lib.hid (fun W h => sProgramValid_c A1 c1 l W h (by omega))
      rw [hp] at HPV
      generalize liveFix l = s at *
      have HFX := Lib.hid hF
      have HP := Lib.hid hp
      clear hp hF HE
      go_wp2_with fail
      refine (HI.out w1 r1).mono ?_
      rintro e w6 ⟨A2, c2, rfl, o2, b6⟩
      replace r1 := (r1.below b6).more b6.size
      replace hB := below_trans hB (Nat.le_refl _) b6
      clear b6
      have r2 := OwI.rd o2
      rw [lvRow_len]
      go_wp2_with fail
      refine (HS.out w6 r1).mono ?_
      rintro e w7 ⟨A3, c3, rfl, o3, b7⟩
      replace r1 := (r1.below b7).more b7.size
      replace r2 := (r2.below b7).more b7.size
      replace hB := below_trans hB (Nat.le_refl _) b7
      clear b7
      have r3 := OwI.rd o3
      rw [lvRow_len]
      clear HI HS o2 o3
      have HSI := Lib.hid (sameInts_c A2 A3 c2 c3 _ w7 r2 r3 (by rw [lvRow_len]; omega))
      rw [lvRow_len] at HSI
      go_wp2_with fail
      refine (HSI.out).mono ?_
      rintro e w8 ⟨rfl, b8⟩
      replace r1 := (r1.below b8).more b8.size
      replace r2 := (r2.below b8).more b8.size
      replace r3 := (r3.below b8).more b8.size
      replace hB := below_trans hB (Nat.le_refl _) b8
      clear b8
      clear HSI
      clear r3
      go_wp2_with fail
      refine (HPV.out w8 r1).mono ?_
      rintro e w9 ⟨rfl, b9⟩
      replace r1 := (r1.below b9).more b9.size
      replace r2 := (r2.below b9).more b9.size
      replace hB := below_trans hB (Nat.le_refl _) b9
      clear b9
      go_wp2_with fail
      refine (iGraphOfV_c A1 c1 l w9 r1 HP.out).mono ?_
      rintro e w10 ⟨Ag, cg, rfl, hG, b10⟩
      replace r1 := (r1.below b10).more b10.size
      replace r2 := (r2.below b10).more b10.size
      replace hB := below_trans hB (Nat.le_refl _) b10
      clear b10
      go_wp2
      go_loopw [6] (fun kv wr => ∃ k : Nat, k ≤ l.length ∧ kv = .int .i64 k ∧ Below w10.heap.size w10 wr) (fun kv _ => l.length - (intOf kv).toNat)
      case atStart => exact ⟨0, Nat.zero_le _, rfl, Below.refl _ _⟩
      case round =>
        obtain ⟨k, hk, rfl, hbk⟩ := hrel
        obtain ⟨ow, how⟩ : ∃ z, z = wr := ⟨wr, rfl⟩
        subst how
        by_cases hlt : k < l.length
        · have hkI : (k : Int) < (l.length : Int) := by omega
          have hkI2 : (k : Int) < ((l.length + 1 : Nat) : Int) := by omega
          replace r1 := (r1.below hbk).more hbk.size
          replace r2 := (r2.below hbk).more hbk.size
          replace hG := (hG.below hbk).more hbk.size
          obtain ⟨gb, go, Ar, cr, rfl, -, g0, hr⟩ := hG.at_ (k := k) (by omega)
          have hsl : (succI l k).length = (succs l k).length := by rw [succI_lt hlt, List.length_map]
          have htwo := succs_two l k
          have HLE := Lib.hid (succs_le HP.out hlt)
          rw [hsl] at g0
          clear hG
          go_wp2
          go_loop [7, 8] (fun sv iv => ∃ j : Nat, j ≤ (succs l k).length ∧ iv = .int .i64 j ∧ sv = .int .i64 (outTo l s k j)) (fun _ i => (succs l k).length - (intOf i).toNat)
          case atStart => exact ⟨0, Nat.zero_le _, rfl, rfl⟩
          case round =>
            obtain ⟨j, hj, rfl, rfl⟩ := hrel
            by_cases hjt : j < (succs l k).length
            · have ht : (succs l k)[j]? = some ((succs l k)[j]) := List.getElem?_eq_getElem hjt
              generalize (succs l k)[j] = t at ht
              have htl : t ≤ l.length := HLE.out t (List.mem_of_getElem? ht)
              have htI : (succI l k)[j]? = some (t : Int) := by rw [succI_lt hlt, List.getElem?_map, ht]; rfl
              obtain ⟨b2, off2, y, rfl, _, hy, g2⟩ := hr.at_ (k := j) (by omega)
              rw [htI] at hy
              injection hy with hy
              subst hy
              obtain ⟨b3, off3, y, rfl, _, hy, g3⟩ := r2.at_ (k := t) (by rw [lvRow_len]; omega)
              rw [lvRow_get s (by omega)] at hy
              injection hy with hy
              subst hy
              have hst := HFX.out.1.b16 t
              have hot := outTo_lt HFX.out.1.b16 l k j
              have HE := Lib.hid (outTo_succ (s := s) ht)
              have hor := or16 hot hst
              have htn : (t : Int) < ((l.length + 1 : Nat) : Int) := by omega
              have hjI : (j : Int) < ((succs l k).length : Int) := by omega
              clear ht htI r2 r1 hr
              go_wp2
              go_round
              case rel => exact ⟨j + 1, by omega, by go_num, by rw [HE.out]⟩
              case measure => simp [intOf]; omega
            · obtain rfl : j = (succs l k).length := by omega
              have hos : outTo l s k (succs l k).length = outSet l s k := outTo_all ..
              have hos16 := outTo_lt HFX.out.1.b16 l k (succs l k).length
              rw [hos] at hos16 ⊢
              have HFE := Lib.hid (fix_eq HFX.out hlt)
              have HLV := Lib.hid (show liveAt l s k = (mdiff (outSet l s k) (wset (cdAt l k)) ||| reads (cdAt l k)) ||| loopSet l k from rfl)
              have hx := cdAt_get' hlt
              have hop := cdAt_op l k
              have hvx := pv_all HP.out _ (List.mem_of_getElem? hx)
              have hrd := reads_lt (cdAt l k)
              clear hjt hj hsl htwo HLE hr hos
              generalize outSet l s k = os at *
              generalize hcd : cdAt l k = x at hx hop hvx HLV hrd
              have HOP := Lib.hid hop
              clear hcd hop
              obtain ⟨b, off, y, rfl, hbB, hy, d0, d1, d2, d3⟩ := r1.at_ hlt
              rw [hx] at hy
              injection hy with hy
              subst hy
              obtain ⟨b4, off4, y4, rfl, _, hy4, lk⟩ := r2.at_ (k := k) (by rw [lvRow_len]; omega)
              rw [lvRow_get s (by omega)] at hy4
              injection hy4 with hy4
              subst hy4
              go_wp2_with fail
              refine (iCodeWrites_c x _).mono ?_
              rintro e wa ⟨rfl, ba⟩
              have hba := below_trans hbk (Nat.le_refl _) ba
              replace d0 := cell_kept ba d0
              replace d1 := cell_kept ba d1
              replace d2 := cell_kept ba d2
              replace d3 := cell_kept ba d3
              replace lk := cell_kept ba lk
              replace r1 := (r1.below ba).more ba.size
              have hwr : (wreg x = -1 ∧ wset x = 0) ∨ (∃ a : Nat, a ≤ 3 ∧ wreg x = (a : Int) ∧ wset x = 2 ^ a) := by
                have ha := cvOk_a hvx
                unfold wreg wset
                cases hc : (cvOk x && inR x.op 1 8) with
                | false => exact .inl ⟨rfl, rfl⟩
                | true => exact .inr ⟨x.a.toNat, by omega, by simp; omega, rfl⟩
              have HX := Lib.hid hx
              clear hx hvx ba hbk r2 g0
              have hstep : ∃ u0 : Nat, u0 < 16 ∧ mdiff os (wset x) = u0 := ⟨_, mdiff_lt hos16, rfl⟩
              obtain ⟨u0, hu0, HU⟩ := hstep
              rw [HU] at HLV
              have HU2 := Lib.hid HU
              clear HU
              rcases hwr with ⟨hw1, hw2⟩ | ⟨a, ha3, hw1, hw2⟩
              · have hos0 : os = u0 := by rw [← HU2.out, hw2, mdiff_zero']
                subst hos0
                rw [hw1]
                clear hw1 hw2
                go_wp2_with fail
                refine (iCodeReads_c x _).mono ?_
                rintro e wb ⟨rfl, bb⟩
                have hbb := below_trans hba (Nat.le_refl _) bb
                replace d0 := cell_kept bb d0
                replace lk := cell_kept bb lk
                replace r1 := (r1.below bb).more bb.size
                have hor := or16 hu0 hrd
                have hu1 : os ||| reads x < 16 := Nat.or_lt_two_pow (n := 4) hu0 hrd
                generalize hnv : os ||| reads x = nv at hor hu1 HLV
                clear hnv bb d1 d2 d3 hba
                go_wp2_with fail
                refine (iBlockAround_c _ c1 l k wb r1 HP.out hlt).mono ?_
                rintro e wc ⟨rfl, bc⟩
                have hbc := below_trans hbb (Nat.le_refl _) bc
                replace d0 := cell_kept bc d0
                replace lk := cell_kept bc lk
                replace r1 := (r1.below bc).more bc.size
                clear bc hbb
                cases e14 : x.op == 14 with
                | false =>
                  have HL0 := Lib.hid (show loopSet l k = 0 from loopSet_no (.inl (by rw [← HOP.out]; exact beq_eq_false_iff_ne.1 e14)))
                  have hsk : s k = nv := by rw [HFE.out, HLV.out, HL0.out, Nat.or_zero]
                  rw [hsk] at lk
                  have hne : ((nv : Int) != (nv : Int)) = false := by simp
                  clear hsk HLV HFE
                  generalize aroundOf l k = v at *
                  go_wp2
                  go_roundw
                  case rel => exact ⟨k + 1, by omega, by go_num, hbc⟩
                  case measure => (simp [intOf] <;> omega)
                | true =>
                  have h14 : x.op = 14 := beq_iff_eq.1 e14
                  obtain ⟨a1, a2, a3⟩ := around_in HP.out HX.out (.inr h14)
                  have HR0 := Lib.hid (show loopSet l k = if opAt l (aroundN l k) == 13 then 2 ^ (cdAt l (aroundN l k)).a.toNat else 0 by simp [loopSet, ← HOP.out, h14])
                  rw [a1]
                  generalize aroundN l k = r at a1 a2 a3 HR0
                  have hxr := cdAt_get' (show r < l.length by omega)
                  have hopr := cdAt_op l r
                  have hvr := cvOk_a (pv_all HP.out _ (List.mem_of_getElem? hxr))
                  generalize cdAt l r = y at hxr hopr a3 hvr HR0
                  obtain ⟨b5, off5, y5, e5, -, hy5, q0, q1, -, -⟩ := r1.at_ (show r < l.length by omega)
                  injection e5 with e5
                  injection e5 with e5 e6
                  subst e5 e6
                  rw [hxr] at hy5
                  injection hy5 with hy5
                  subst hy5
                  rw [← hopr] at HR0
                  have hrl : (r : Int) < (l.length : Int) := by omega
                  have hr0 : (0 : Int) ≤ (r : Int) := by omega
                  clear hxr hopr h14 a1
                  cases ey : y.op == 13 with
                  | false =>
                    have HL0 := Lib.hid (show loopSet l k = 0 by rw [HR0.out, ey]; rfl)
                    have hsk : s k = nv := by rw [HFE.out, HLV.out, HL0.out, Nat.or_zero]
                    rw [hsk] at lk
                    have hne : ((nv : Int) != (nv : Int)) = false := by simp
                    clear hsk HLV HFE HR0
                    go_wp2
                    go_roundw
                    case rel => exact ⟨k + 1, by omega, by go_num, hbc⟩
                    case measure => (simp [intOf] <;> omega)
                  | true =>
                    obtain ⟨ya, hya⟩ := Int.eq_ofNat_of_zero_le hvr.1
                    have hya3 : ya ≤ 3 := by omega
                    have HL0 := Lib.hid (show loopSet l k = 2 ^ ya by rw [HR0.out, ey, hya]; rfl)
                    rw [hya] at q1
                    have hor2 := or_bit nv ya (by omega) (by omega)
                    have hsk : s k = nv ||| 2 ^ ya := by rw [HFE.out, HLV.out, HL0.out]
                    rw [hsk] at lk
                    generalize nv ||| 2 ^ ya = nv2 at hor2 lk
                    have hne : ((nv2 : Int) != (nv2 : Int)) = false := by simp
                    clear hsk HLV HFE HR0 hya
                    go_wp2
                    go_roundw
                    case rel => exact ⟨k + 1, by omega, by go_num, hbc⟩
                    case measure => (simp [intOf] <;> omega)
              · have han := bits_andNot64 os (2 ^ a) (by omega) (pow_small a (by omega))
                rw [← wrap64_pow a (by omega)] at han
                rw [hw1]
                have hu := HU2.out
                rw [hw2] at hu
                rw [hu] at han
                clear hw1 hw2 hu
                go_wp2_with fail
                refine (iCodeReads_c x _).mono ?_
                rintro e wb ⟨rfl, bb⟩
                have hbb := below_trans hba (Nat.le_refl _) bb
                replace d0 := cell_kept bb d0
                replace lk := cell_kept bb lk
                replace r1 := (r1.below bb).more bb.size
                have hor := or16 hu0 hrd
                have hu1 : u0 ||| reads x < 16 := Nat.or_lt_two_pow (n := 4) hu0 hrd
                generalize hnv : u0 ||| reads x = nv at hor hu1 HLV
                clear hnv bb d1 d2 d3 hba
                go_wp2_with fail
                refine (iBlockAround_c _ c1 l k wb r1 HP.out hlt).mono ?_
                rintro e wc ⟨rfl, bc⟩
                have hbc := below_trans hbb (Nat.le_refl _) bc
                replace d0 := cell_kept bc d0
                replace lk := cell_kept bc lk
                replace r1 := (r1.below bc).more bc.size
                clear bc hbb
                cases e14 : x.op == 14 with
                | false =>
                  have HL0 := Lib.hid (show loopSet l k = 0 from loopSet_no (.inl (by rw [← HOP.out]; exact beq_eq_false_iff_ne.1 e14)))
                  have hsk : s k = nv := by rw [HFE.out, HLV.out, HL0.out, Nat.or_zero]
                  rw [hsk] at lk
                  have hne : ((nv : Int) != (nv : Int)) = false := by simp
                  clear hsk HLV HFE
                  generalize aroundOf l k = v at *
                  go_wp2
                  go_roundw
                  case rel => exact ⟨k + 1, by omega, by go_num, hbc⟩
                  case measure => (simp [intOf] <;> omega)
                | true =>
                  have h14 : x.op = 14 := beq_iff_eq.1 e14
                  obtain ⟨a1, a2, a3⟩ := around_in HP.out HX.out (.inr h14)
                  have HR0 := Lib.hid (show loopSet l k = if opAt l (aroundN l k) == 13 then 2 ^ (cdAt l (aroundN l k)).a.toNat else 0 by simp [loopSet, ← HOP.out, h14])
                  rw [a1]
                  generalize aroundN l k = r at a1 a2 a3 HR0
                  have hxr := cdAt_get' (show r < l.length by omega)
                  have hopr := cdAt_op l r
                  have hvr := cvOk_a (pv_all HP.out _ (List.mem_of_getElem? hxr))
                  generalize cdAt l r = y at hxr hopr a3 hvr HR0
                  obtain ⟨b5, off5, y5, e5, -, hy5, q0, q1, -, -⟩ := r1.at_ (show r < l.length by omega)
                  injection e5 with e5
                  injection e5 with e5 e6
                  subst e5 e6
                  rw [hxr] at hy5
                  injection hy5 with hy5
                  subst hy5
                  rw [← hopr] at HR0
                  have hrl : (r : Int) < (l.length : Int) := by omega
                  have hr0 : (0 : Int) ≤ (r : Int) := by omega
                  clear hxr hopr h14 a1
                  cases ey : y.op == 13 with
                  | false =>
                    have HL0 := Lib.hid (show loopSet l k = 0 by rw [HR0.out, ey]; rfl)
                    have hsk : s k = nv := by rw [HFE.out, HLV.out, HL0.out, Nat.or_zero]
                    rw [hsk] at lk
                    have hne : ((nv : Int) != (nv : Int)) = false := by simp
                    clear hsk HLV HFE HR0
                    go_wp2
                    go_roundw
                    case rel => exact ⟨k + 1, by omega, by go_num, hbc⟩
                    case measure => (simp [intOf] <;> omega)
                  | true =>
                    obtain ⟨ya, hya⟩ := Int.eq_ofNat_of_zero_le hvr.1
                    have hya3 : ya ≤ 3 := by omega
                    have HL0 := Lib.hid (show loopSet l k = 2 ^ ya by rw [HR0.out, ey, hya]; rfl)
                    rw [hya] at q1
                    have hor2 := or_bit nv ya (by omega) (by omega)
                    have hsk : s k = nv ||| 2 ^ ya := by rw [HFE.out, HLV.out, HL0.out]
                    rw [hsk] at lk
                    generalize nv ||| 2 ^ ya = nv2 at hor2 lk
                    have hne : ((nv2 : Int) != (nv2 : Int)) = false := by simp
                    clear hsk HLV HFE HR0 hya
                    go_wp2
                    go_roundw
                    case rel => exact ⟨k + 1, by omega, by go_num, hbc⟩
                    case measure => (simp [intOf] <;> omega)
        · obtain rfl : k = l.length := by omega
          obtain ⟨b4, off4, y4, rfl, _, hy4, lk⟩ := ((r2.below hbk).more hbk.size).at_ (k := l.length) (by rw [lvRow_len]; omega)
          rw [lvRow_get s (by omega)] at hy4
          injection hy4 with hy4
          subst hy4
          rw [HFX.out.1.out _ (Nat.le_refl _)] at lk
          have hbw := below_trans hB (Nat.le_refl _) hbk
          go_wp2
          go_ret
          exact ⟨rfl, hbw⟩
end Go.Proofs.Ytcaibhjdahmjeaa
