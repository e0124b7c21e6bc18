/- The reference's LiveSets. -/
import Derived.Test.YtakeacndmnnbmaaGreatLive3
namespace Go.Proofs.YtakeacndmnnbmaaGreat
open Go.RowKit
set_option linter.unusedVariables false
set_option linter.unusedSimpArgs false

/-- The sum of n numbers in a block. -/
def cellSum (w : World) (g : Nat) : Nat → Nat
  | 0 => 0
  | n + 1 => cellSum w g n + (match w.cell? ⟨g, n, none⟩ with | some (.int _ v) => v.toNat | _ => 0)
theorem cellSum_eq {w : World} {base g N c : Nat} {s : Nat → Nat} (h : OI w base (some ⟨g, 0, none⟩) N c (lvRow s N)) : ∀ n, n ≤ N → cellSum w g n = sumN s n
  | 0, _ => rfl
  | n + 1, hn => by
    have h1 := (OI.at0 h).1 n _ (lvRow_get s (show n < N by omega))
    simp only [cellSum, sumN, h1, cellSum_eq h n (by omega)]
    simp
theorem sumN_same : ∀ {s t : Nat → Nat} (n : Nat), (∀ k, k < n → s k = t k) → sumN s n = sumN t n
  | _, _, 0, _ => rfl
  | s, t, n + 1, h => by simp only [sumN, sumN_same n (fun k hk => h k (by omega)), h n (by omega)]

def flagN (v : Value) : Nat := match v with | .bool true => 1 | _ => 0

def LSRel (l : List Cd) (w2 : World) (lb : Nat) (cv : Value) (wr : World) : Prop :=
  ∃ (s : Nat → Nat) (ch : Bool), cv = .bool ch ∧ Hid (LInv l s) ∧ OI wr w2.heap.size (some ⟨lb, 0, none⟩) (l.length + 1) (l.length + 1) (lvRow s (l.length + 1)) ∧ Below w2.heap.size w2 wr ∧ Hid (ch = false → s = liveFix l)

def LMRel (l : List Cd) (w2 : World) (lb : Nat) (s0 : Nat → Nat) (cv kv : Value) (wr : World) : Prop :=
  ∃ (s : Nat → Nat) (ch : Bool) (k : Nat), cv = .bool ch ∧ k ≤ l.length ∧ kv = .int .i64 ((k : Int) - 1) ∧ Hid (Mid l s0 s k ch) ∧ OI wr w2.heap.size (some ⟨lb, 0, none⟩) (l.length + 1) (l.length + 1) (lvRow s (l.length + 1)) ∧ Below w2.heap.size w2 wr

theorem loopSet_yes {l : List Cd} {k : Nat} (h1 : opAt l k = 14) (h2 : opAt l (aroundN l k) = 13) : loopSet l k = 2 ^ (cdAt l (aroundN l k)).a.toNat := by simp [loopSet, h1, h2]
theorem loopSet_no {l : List Cd} {k : Nat} (h : opAt l k ≠ 14 ∨ opAt l (aroundN l k) ≠ 13) : loopSet l k = 0 := by
  unfold loopSet
  rw [if_neg]
  simp
  intro h1
  exact h.resolve_left (fun e => e h1)

set_option maxRecDepth 100000 in
set_option maxHeartbeats 16000000 in
theorem sLiveSets_c (A : Option Addr) (c : Nat) (l : List Cd) (w : World) (hA : RdC w w.heap.size A l) (hp : pv l = true) :
    Calls Tryz.prog 114 #[.slice A l.length c] w (RetI w (lvRow (liveFix l) (l.length + 1))) := by
  have h40 := (pv_iff.1 hp).1
  have HP := Lib.hid hp
  have hmk : ∀ w : World, (Instr.makeSlice 23 (.int .i64 ((l.length : Int) + 1)) (.int .i64 ((l.length : Int) + 1))).run Tryz.prog w = .ok (.slice (some ⟨w.heap.size, 0, none⟩) (l.length + 1) (l.length + 1)) (w.alloc (.cells (zeroRow (.int .i64 0) (l.length + 1)) 3)) := by
    have := make_int (l.length + 1) (by omega)
    simpa using this
  go_enter Tryz.func114, Tryz.ntmps114
  go_wp2_with fail
  refine (sProgramValid_c A c l w hA (by omega)).mono ?_
  rintro e w1 ⟨rfl, hb1⟩
  rw [hp]
  go_wp2_with fail
  refine (sGraphOf_c A c l w1 ((hA.below hb1).more hb1.size) hp).mono ?_
  rintro e w2 ⟨Ag, cg, rfl, hG, hb2⟩
  replace hG := hG.rd
  have hbW := below_trans hb1 (Nat.le_refl _) hb2
  have hAW := (hA.below hbW).more hbW.size
  have hbsz := hbW.size
  go_wp2_with fail
  have hrow : OI (w2.alloc (.cells (zeroRow (.int .i64 0) (l.length + 1)) 3)) w2.heap.size (some ⟨w2.heap.size, 0, none⟩) (l.length + 1) (l.length + 1) (lvRow (fun _ => 0) (l.length + 1)) := by
    have := OR.lit w2 w2.heap.size 3 1 (l.length + 1) (zeroRow (.int .i64 0) (l.length + 1)) (Nat.le_refl _) (by omega) (by rw [zeroRow_size]; omega)
    have e : (zeroRow (.int .i64 0) (l.length + 1)).toList = (lvRow (fun _ => 0) (l.length + 1)).map (Value.int .i64) := by
      have e2 : lvRow (fun _ => 0) (l.length + 1) = List.replicate (l.length + 1) 0 := by
        apply List.ext_getElem?
        intro j
        by_cases h : j < l.length + 1 <;> simp [lvRow, h]
      rw [e2, List.map_replicate]
      exact toList_madeCells_one _ _
    rw [e] at this
    exact this
  have hbL := (Below.refl w2.heap.size w2).alloc (Nat.le_refl _) (.cells (zeroRow (.int .i64 0) (l.length + 1)) 3)
  generalize w2.alloc (.cells (zeroRow (.int .i64 0) (l.length + 1)) 3) = w3 at *
  obtain ⟨lb, hlb⟩ : ∃ lb, lb = w2.heap.size := ⟨_, rfl⟩
  rw [← hlb]
  conv at hrow => arg 3; rw [← hlb]
  have hlbB : w2.heap.size ≤ lb := by omega
  clear hmk hlb
  go_loopw [5] (fun cv wr => LSRel l w2 lb cv wr) (fun cv wr => 2 * (15 * l.length - cellSum wr lb l.length) + flagN cv)
  case atStart => exact ⟨fun _ => 0, true, rfl, Lib.hid (LInv.start l), hrow, hbL, Lib.hid (fun h => by cases h)⟩
  case round =>
    clear hrow hbL
    obtain ⟨s0, ch, rfl, HI, ho0, hb0, HF⟩ := hrel
    cases ch with
    | false =>
      have HS := Lib.hid (HF.out rfl)
      clear HF
      go_wp2
      go_ret
      rw [← HS.out]
      exact RetI.mono (RetI.of ho0 hb0) hbW
    | true =>
      have hq : IntKind.i64.wrap ((l.length : Int) - 1) = (l.length : Int) - 1 := IntWalk.i64_in _ (by omega)
      obtain ⟨wo, rfl⟩ : ∃ wo, wo = wr := ⟨_, rfl⟩
      go_wp2_with fail
      go_loopw [5, 6] (fun cv kv wr => LMRel l w2 lb s0 cv kv wr) (fun _ kv _ => (intOf kv + 1).toNat)
      case atStart => exact ⟨s0, false, l.length, rfl, Nat.le_refl _, rfl, Lib.hid (Mid.start HI.out), ho0, hb0⟩
      case round =>
        obtain ⟨s, ch, k, rfl, hk, rfl, HM, ho, hb⟩ := hrel
        rcases Nat.eq_zero_or_pos k with rfl | hk0
        · have hd : decide ((((0 : Nat) : Int) - 1) ≥ 0) = false := by simp
          have HO := Lib.hid ho
          have HO0 := Lib.hid ho0
          clear ho ho0 hG
          go_wp2
          refine ⟨⟨s, ch, rfl, Lib.hid HM.out.1, HO.out, hb, Lib.hid (fun h => by subst h; exact HM.out.done)⟩, ?_⟩
          have e1 := cellSum_eq HO.out l.length (by omega)
          have e0 := cellSum_eq HO0.out l.length (by omega)
          rw [e1, e0]
          have hle := sumN_le HM.out.1.b16 l.length
          cases ch with
          | true => have := HM.out.2.2 rfl; simp only [flagN]; omega
          | false => have := (HM.out.2.1 rfl).1; rw [this]; simp only [flagN]; omega
        · obtain ⟨kk, rfl⟩ : ∃ kk, k = kk + 1 := ⟨k - 1, by omega⟩
          have hkv : (((kk + 1 : Nat) : Int) - 1) = (kk : Int) := by omega
          rw [hkv]
          have hklt : kk < l.length := by omega
          have HB0 := Lib.hid hb
          have hsz := hb.size
          have hGr := hG.below hb
          have hAr := (hAW.below hb).more hsz
          go_wp2_with fail
          have hLr : RdI wr wr.heap.size (some ⟨lb, 0, none⟩) (lvRow s (l.length + 1)) := by
            have := OR.reads ho
            unfold RdI
            rw [lvRow_len]
            exact this
          refine (l19Out_c Ag _ cg _ l s kk _ (hGr.more hsz) hLr hp hklt HM.out.1.b16).mono ?_
          rintro e w3 ⟨rfl, hb3⟩
          have ho3 := OR.below ho hb3 (Nat.le_refl _)
          have hbW3 := below_trans hb (Nat.le_refl _) hb3
          have hx := cdAt_get' hklt
          have hop := cdAt_op l kk
          have hvx := pv_all hp _ (List.mem_of_getElem? hx)
          have hos : outSet l s kk < 16 := by have := outTo_lt HM.out.1.b16 l kk (succs l kk).length; rwa [outTo_all] at this
          have HLV := Lib.hid (show liveAt l s kk = (mdiff (outSet l s kk) (wset (cdAt l kk)) ||| reads (cdAt l kk)) ||| loopSet l kk from rfl)
          have hrd := reads_lt (cdAt l kk)
          generalize outSet l s kk = os at *
          generalize hcd : cdAt l kk = x at hx hop hvx HLV hrd
          have HOP := Lib.hid hop
          clear hcd ho hGr hLr hop
          obtain ⟨b, off, y, rfl, hbB, hy, d0, d1, d2, d3⟩ := (hAW.below hbW3).at_ hklt
          rw [hx] at hy
          injection hy with hy
          subst hy
          go_wp2_with fail
          refine (sCodeWrites_c x _).mono ?_
          rintro e w4 ⟨rfl, hb4⟩
          have ho4 := OR.below ho3 hb4 (Nat.le_refl _)
          have hbW4 := below_trans hbW3 (Nat.le_refl _) hb4
          replace d0 := cell_kept hb4 d0
          replace d1 := cell_kept hb4 d1
          replace d2 := cell_kept hb4 d2
          replace d3 := cell_kept hb4 d3
          have hwr : (wreg x = -1 ∧ wset x = 0) ∨ (∃ a : Nat, a ≤ 3 ∧ wreg x = (a : Int) ∧ wset x = 2 ^ a) := by
            have ha := cvOk_a hvx
            unfold wreg wset
            cases hc : (cvOk x && inR x.op 1 8) with
            | false => exact .inl ⟨rfl, rfl⟩
            | true => exact .inr ⟨x.a.toNat, by omega, by simp; omega, rfl⟩
          have HX := Lib.hid hx
          have HVX := Lib.hid hvx
          clear hx hvx ho3 hb3 hb4
          have hstep : ∃ u0 : Nat, u0 < 16 ∧ mdiff os (wset x) = u0 := ⟨_, mdiff_lt hos, rfl⟩
          obtain ⟨u0, hu0, HU⟩ := hstep
          rw [HU] at HLV
          have HU2 := Lib.hid HU
          clear HU
          rcases hwr with ⟨hw1, hw2⟩ | ⟨a, ha3, hw1, hw2⟩
          · have hos0 : os = u0 := by rw [← HU2.out, hw2, mdiff_zero']
            subst hos0
            rw [hw1]
            clear hw1 hw2
            go_wp2_with fail
            refine (sCodeReads_c x _).mono ?_
            rintro e w5 ⟨rfl, hb5⟩
            have ho5 := OR.below ho4 hb5 (Nat.le_refl _)
            have hbW5 := below_trans hbW4 (Nat.le_refl _) hb5
            replace d0 := cell_kept hb5 d0
            replace d1 := cell_kept hb5 d1
            replace d2 := cell_kept hb5 d2
            replace d3 := cell_kept hb5 d3
            have hor := or16 hu0 hrd
            have hu1 : os ||| reads x < 16 := Nat.or_lt_two_pow (n := 4) hu0 hrd
            generalize hnv : os ||| reads x = nv at hor hu1 HLV
            clear hnv ho4 hb5
            cases e14 : x.op == 14 with
            | false =>
              have HL0 := Lib.hid (show loopSet l kk = 0 from loopSet_no (.inl (by rw [← HOP.out]; exact beq_eq_false_iff_ne.1 e14)))
              have HLV2 := Lib.hid (show liveAt l s kk = nv by rw [HLV.out, HL0.out, Nat.or_zero])
              have HB := Lib.hid hbW5
              have HSET := Lib.hid (show OI (w5.setCell ⟨lb, kk, none⟩ (.int .i64 nv)) w2.heap.size (some ⟨lb, 0, none⟩) (l.length + 1) (l.length + 1) (lvRow (upd s kk nv) (l.length + 1)) by
                have := (OI.at0 ho5).2.2 kk (nv : Int)
                rwa [lvRow_set] at this)
              have f1 := (OI.at0 ho5).2.1 kk
              have cS := (OI.at0 ho5).1 kk _ (lvRow_get s (show kk < l.length + 1 by omega))
              have HMS := Lib.hid (show Mid l s0 (upd s kk nv) kk (ch || !((nv : Int) == (s kk : Int))) by
                have := HM.out.step HP.out (show kk < l.length by omega)
                rwa [HLV2.out] at this)
              have hkI : (kk : Int) < ((l.length + 1 : Nat) : Int) := by omega
              generalize (s kk : Int) = sk at *
              clear ho5 HLV
              cases ch with
              | true =>
                go_wp2
                go_roundw
                case rel => exact ⟨upd s kk nv, true, kk, rfl, by omega, by go_num, Lib.hid (by simpa using HMS.out), HSET.out, HB.out.setCell hlbB _⟩
                case measure => simp [intOf]
              | false =>
                go_wp2
                go_roundw
                case rel => exact ⟨upd s kk nv, ((nv : Int) != sk), kk, rfl, by omega, by go_num, Lib.hid (by simpa [bne] using HMS.out), HSET.out, HB.out.setCell hlbB _⟩
                case measure => simp [intOf]
            | true =>
              have h14 : x.op = 14 := beq_iff_eq.1 e14
              obtain ⟨a1, a2, a3⟩ := around_in hp HX.out (.inr h14)
              have HR0 := Lib.hid (show loopSet l kk = if opAt l (aroundN l kk) == 13 then 2 ^ (cdAt l (aroundN l kk)).a.toNat else 0 by simp [loopSet, ← HOP.out, h14])
              generalize aroundN l kk = r at a1 a2 a3 HR0
              have hsz5 := hbW5.size
              have hA5 := (hAW.below hbW5).more hsz5
              clear h14
              go_wp2_with fail
              refine (l4Around_c _ c l kk _ hA5 (by omega) (by omega)).mono ?_
              rintro e w6 ⟨rfl, hb6⟩
              rw [a1]
              have ho6 := OR.below ho5 hb6 (Nat.le_refl _)
              have hbW6 := below_trans hbW5 (Nat.le_refl _) hb6
              have hA6 := (hAW.below hbW6).more hbW6.size
              have hxr := cdAt_get' (show r < l.length by omega)
              have hopr := cdAt_op l r
              have hvr := cvOk_a (pv_all hp _ (List.mem_of_getElem? hxr))
              generalize cdAt l r = y at hxr hopr a3 hvr HR0
              obtain ⟨b2, off2, y2, e2, -, hy2, g0, g1, -, -⟩ := hA6.at_ (show r < l.length by omega)
              injection e2 with e2
              injection e2 with e2 e3
              subst e2 e3
              rw [hxr] at hy2
              injection hy2 with hy2
              subst hy2
              rw [← hopr] at HR0
              have hrl : (r : Int) < (l.length : Int) := by omega
              have hr0 : (0 : Int) ≤ (r : Int) := by omega
              replace d0 := cell_kept hb6 d0
              clear hxr hopr ho5 d1 d2 d3
              cases ey : y.op == 13 with
              | false =>
                have HL0 := Lib.hid (show loopSet l kk = 0 by rw [HR0.out, ey]; rfl)
                clear hb6 a1
                have HLV2 := Lib.hid (show liveAt l s kk = nv by rw [HLV.out, HL0.out, Nat.or_zero])
                have HB := Lib.hid hbW6
                have HSET := Lib.hid (show OI (w6.setCell ⟨lb, kk, none⟩ (.int .i64 nv)) w2.heap.size (some ⟨lb, 0, none⟩) (l.length + 1) (l.length + 1) (lvRow (upd s kk nv) (l.length + 1)) by
                  have := (OI.at0 ho6).2.2 kk (nv : Int)
                  rwa [lvRow_set] at this)
                have f1 := (OI.at0 ho6).2.1 kk
                have cS := (OI.at0 ho6).1 kk _ (lvRow_get s (show kk < l.length + 1 by omega))
                have HMS := Lib.hid (show Mid l s0 (upd s kk nv) kk (ch || !((nv : Int) == (s kk : Int))) by
                  have := HM.out.step HP.out (show kk < l.length by omega)
                  rwa [HLV2.out] at this)
                have hkI : (kk : Int) < ((l.length + 1 : Nat) : Int) := by omega
                generalize (s kk : Int) = sk at *
                clear ho6 HLV
                cases ch with
                | true =>
                  go_wp2
                  go_roundw
                  case rel => exact ⟨upd s kk nv, true, kk, rfl, by omega, by go_num, Lib.hid (by simpa using HMS.out), HSET.out, HB.out.setCell hlbB _⟩
                  case measure => simp [intOf]
                | false =>
                  go_wp2
                  go_roundw
                  case rel => exact ⟨upd s kk nv, ((nv : Int) != sk), kk, rfl, by omega, by go_num, Lib.hid (by simpa [bne] using HMS.out), HSET.out, HB.out.setCell hlbB _⟩
                  case measure => simp [intOf]
              | true =>
                obtain ⟨ya, hya⟩ := Int.eq_ofNat_of_zero_le hvr.1
                have hya3 : ya ≤ 3 := by omega
                have HL0 := Lib.hid (show loopSet l kk = 2 ^ ya by rw [HR0.out, ey, hya]; rfl)
                rw [hya] at g1
                have hor2 := or_bit nv ya (by omega) (by omega)
                have hp8 : 2 ^ ya ≤ 2 ^ 3 := Nat.pow_le_pow_right (by decide) hya3
                have hlt2 : nv ||| 2 ^ ya < 16 := Nat.or_lt_two_pow (n := 4) hu1 (by omega)
                generalize hnv2 : nv ||| 2 ^ ya = nv2 at hor2 hlt2
                have HNV := Lib.hid hnv2
                clear hnv2 hya hp8
                go_wp2_with fail
                refine (l4Around_c _ c l kk _ hA6 (by omega) (by omega)).mono ?_
                rintro e w7 ⟨rfl, hb7⟩
                rw [a1]
                have ho7 := OR.below ho6 hb7 (Nat.le_refl _)
                have hbW7 := below_trans hbW6 (Nat.le_refl _) hb7
                replace g0 := cell_kept hb7 g0
                replace g1 := cell_kept hb7 g1
                clear hb6 hb7 a1 ho6
                have HLV2 := Lib.hid (show liveAt l s kk = nv2 by rw [HLV.out, HL0.out, HNV.out])
                have HB := Lib.hid hbW7
                have HSET := Lib.hid (show OI (w7.setCell ⟨lb, kk, none⟩ (.int .i64 nv2)) w2.heap.size (some ⟨lb, 0, none⟩) (l.length + 1) (l.length + 1) (lvRow (upd s kk nv2) (l.length + 1)) by
                  have := (OI.at0 ho7).2.2 kk (nv2 : Int)
                  rwa [lvRow_set] at this)
                have f1 := (OI.at0 ho7).2.1 kk
                have cS := (OI.at0 ho7).1 kk _ (lvRow_get s (show kk < l.length + 1 by omega))
                have HMS := Lib.hid (show Mid l s0 (upd s kk nv2) kk (ch || !((nv2 : Int) == (s kk : Int))) by
                  have := HM.out.step HP.out (show kk < l.length by omega)
                  rwa [HLV2.out] at this)
                have hkI : (kk : Int) < ((l.length + 1 : Nat) : Int) := by omega
                generalize (s kk : Int) = sk at *
                clear ho7 HLV
                cases ch with
                | true =>
                  go_wp2
                  go_roundw
                  case rel => exact ⟨upd s kk nv2, true, kk, rfl, by omega, by go_num, Lib.hid (by simpa using HMS.out), HSET.out, HB.out.setCell hlbB _⟩
                  case measure => simp [intOf]
                | false =>
                  go_wp2
                  go_roundw
                  case rel => exact ⟨upd s kk nv2, ((nv2 : Int) != sk), kk, rfl, by omega, by go_num, Lib.hid (by simpa [bne] using HMS.out), HSET.out, HB.out.setCell hlbB _⟩
                  case measure => simp [intOf]
          · have han := bits_andNot64 os (2 ^ a) (by omega) (pow_small a (by omega))
            rw [← wrap64_pow a (by omega)] at han
            rw [hw1]
            have hu := HU2.out
            rw [hw2] at hu
            rw [hu] at han
            clear hw1 hw2 hu
            go_wp2_with fail
            refine (sCodeReads_c x _).mono ?_
            rintro e w5 ⟨rfl, hb5⟩
            have ho5 := OR.below ho4 hb5 (Nat.le_refl _)
            have hbW5 := below_trans hbW4 (Nat.le_refl _) hb5
            replace d0 := cell_kept hb5 d0
            replace d1 := cell_kept hb5 d1
            replace d2 := cell_kept hb5 d2
            replace d3 := cell_kept hb5 d3
            have hor := or16 hu0 hrd
            have hu1 : u0 ||| reads x < 16 := Nat.or_lt_two_pow (n := 4) hu0 hrd
            generalize hnv : u0 ||| reads x = nv at hor hu1 HLV
            clear hnv ho4 hb5
            cases e14 : x.op == 14 with
            | false =>
              have HL0 := Lib.hid (show loopSet l kk = 0 from loopSet_no (.inl (by rw [← HOP.out]; exact beq_eq_false_iff_ne.1 e14)))
              have HLV2 := Lib.hid (show liveAt l s kk = nv by rw [HLV.out, HL0.out, Nat.or_zero])
              have HB := Lib.hid hbW5
              have HSET := Lib.hid (show OI (w5.setCell ⟨lb, kk, none⟩ (.int .i64 nv)) w2.heap.size (some ⟨lb, 0, none⟩) (l.length + 1) (l.length + 1) (lvRow (upd s kk nv) (l.length + 1)) by
                have := (OI.at0 ho5).2.2 kk (nv : Int)
                rwa [lvRow_set] at this)
              have f1 := (OI.at0 ho5).2.1 kk
              have cS := (OI.at0 ho5).1 kk _ (lvRow_get s (show kk < l.length + 1 by omega))
              have HMS := Lib.hid (show Mid l s0 (upd s kk nv) kk (ch || !((nv : Int) == (s kk : Int))) by
                have := HM.out.step HP.out (show kk < l.length by omega)
                rwa [HLV2.out] at this)
              have hkI : (kk : Int) < ((l.length + 1 : Nat) : Int) := by omega
              generalize (s kk : Int) = sk at *
              clear ho5 HLV
              cases ch with
              | true =>
                go_wp2
                go_roundw
                case rel => exact ⟨upd s kk nv, true, kk, rfl, by omega, by go_num, Lib.hid (by simpa using HMS.out), HSET.out, HB.out.setCell hlbB _⟩
                case measure => simp [intOf]
              | false =>
                go_wp2
                go_roundw
                case rel => exact ⟨upd s kk nv, ((nv : Int) != sk), kk, rfl, by omega, by go_num, Lib.hid (by simpa [bne] using HMS.out), HSET.out, HB.out.setCell hlbB _⟩
                case measure => simp [intOf]
            | true =>
              have h14 : x.op = 14 := beq_iff_eq.1 e14
              obtain ⟨a1, a2, a3⟩ := around_in hp HX.out (.inr h14)
              have HR0 := Lib.hid (show loopSet l kk = if opAt l (aroundN l kk) == 13 then 2 ^ (cdAt l (aroundN l kk)).a.toNat else 0 by simp [loopSet, ← HOP.out, h14])
              generalize aroundN l kk = r at a1 a2 a3 HR0
              have hsz5 := hbW5.size
              have hA5 := (hAW.below hbW5).more hsz5
              clear h14
              go_wp2_with fail
              refine (l4Around_c _ c l kk _ hA5 (by omega) (by omega)).mono ?_
              rintro e w6 ⟨rfl, hb6⟩
              rw [a1]
              have ho6 := OR.below ho5 hb6 (Nat.le_refl _)
              have hbW6 := below_trans hbW5 (Nat.le_refl _) hb6
              have hA6 := (hAW.below hbW6).more hbW6.size
              have hxr := cdAt_get' (show r < l.length by omega)
              have hopr := cdAt_op l r
              have hvr := cvOk_a (pv_all hp _ (List.mem_of_getElem? hxr))
              generalize cdAt l r = y at hxr hopr a3 hvr HR0
              obtain ⟨b2, off2, y2, e2, -, hy2, g0, g1, -, -⟩ := hA6.at_ (show r < l.length by omega)
              injection e2 with e2
              injection e2 with e2 e3
              subst e2 e3
              rw [hxr] at hy2
              injection hy2 with hy2
              subst hy2
              rw [← hopr] at HR0
              have hrl : (r : Int) < (l.length : Int) := by omega
              have hr0 : (0 : Int) ≤ (r : Int) := by omega
              replace d0 := cell_kept hb6 d0
              clear hxr hopr ho5 d1 d2 d3
              cases ey : y.op == 13 with
              | false =>
                have HL0 := Lib.hid (show loopSet l kk = 0 by rw [HR0.out, ey]; rfl)
                clear hb6 a1
                have HLV2 := Lib.hid (show liveAt l s kk = nv by rw [HLV.out, HL0.out, Nat.or_zero])
                have HB := Lib.hid hbW6
                have HSET := Lib.hid (show OI (w6.setCell ⟨lb, kk, none⟩ (.int .i64 nv)) w2.heap.size (some ⟨lb, 0, none⟩) (l.length + 1) (l.length + 1) (lvRow (upd s kk nv) (l.length + 1)) by
                  have := (OI.at0 ho6).2.2 kk (nv : Int)
                  rwa [lvRow_set] at this)
                have f1 := (OI.at0 ho6).2.1 kk
                have cS := (OI.at0 ho6).1 kk _ (lvRow_get s (show kk < l.length + 1 by omega))
                have HMS := Lib.hid (show Mid l s0 (upd s kk nv) kk (ch || !((nv : Int) == (s kk : Int))) by
                  have := HM.out.step HP.out (show kk < l.length by omega)
                  rwa [HLV2.out] at this)
                have hkI : (kk : Int) < ((l.length + 1 : Nat) : Int) := by omega
                generalize (s kk : Int) = sk at *
                clear ho6 HLV
                cases ch with
                | true =>
                  go_wp2
                  go_roundw
                  case rel => exact ⟨upd s kk nv, true, kk, rfl, by omega, by go_num, Lib.hid (by simpa using HMS.out), HSET.out, HB.out.setCell hlbB _⟩
                  case measure => simp [intOf]
                | false =>
                  go_wp2
                  go_roundw
                  case rel => exact ⟨upd s kk nv, ((nv : Int) != sk), kk, rfl, by omega, by go_num, Lib.hid (by simpa [bne] using HMS.out), HSET.out, HB.out.setCell hlbB _⟩
                  case measure => simp [intOf]
              | true =>
                obtain ⟨ya, hya⟩ := Int.eq_ofNat_of_zero_le hvr.1
                have hya3 : ya ≤ 3 := by omega
                have HL0 := Lib.hid (show loopSet l kk = 2 ^ ya by rw [HR0.out, ey, hya]; rfl)
                rw [hya] at g1
                have hor2 := or_bit nv ya (by omega) (by omega)
                have hp8 : 2 ^ ya ≤ 2 ^ 3 := Nat.pow_le_pow_right (by decide) hya3
                have hlt2 : nv ||| 2 ^ ya < 16 := Nat.or_lt_two_pow (n := 4) hu1 (by omega)
                generalize hnv2 : nv ||| 2 ^ ya = nv2 at hor2 hlt2
                have HNV := Lib.hid hnv2
                clear hnv2 hya hp8
                go_wp2_with fail
                refine (l4Around_c _ c l kk _ hA6 (by omega) (by omega)).mono ?_
                rintro e w7 ⟨rfl, hb7⟩
                rw [a1]
                have ho7 := OR.below ho6 hb7 (Nat.le_refl _)
                have hbW7 := below_trans hbW6 (Nat.le_refl _) hb7
                replace g0 := cell_kept hb7 g0
                replace g1 := cell_kept hb7 g1
                clear hb6 hb7 a1 ho6
                have HLV2 := Lib.hid (show liveAt l s kk = nv2 by rw [HLV.out, HL0.out, HNV.out])
                have HB := Lib.hid hbW7
                have HSET := Lib.hid (show OI (w7.setCell ⟨lb, kk, none⟩ (.int .i64 nv2)) w2.heap.size (some ⟨lb, 0, none⟩) (l.length + 1) (l.length + 1) (lvRow (upd s kk nv2) (l.length + 1)) by
                  have := (OI.at0 ho7).2.2 kk (nv2 : Int)
                  rwa [lvRow_set] at this)
                have f1 := (OI.at0 ho7).2.1 kk
                have cS := (OI.at0 ho7).1 kk _ (lvRow_get s (show kk < l.length + 1 by omega))
                have HMS := Lib.hid (show Mid l s0 (upd s kk nv2) kk (ch || !((nv2 : Int) == (s kk : Int))) by
                  have := HM.out.step HP.out (show kk < l.length by omega)
                  rwa [HLV2.out] at this)
                have hkI : (kk : Int) < ((l.length + 1 : Nat) : Int) := by omega
                generalize (s kk : Int) = sk at *
                clear ho7 HLV
                cases ch with
                | true =>
                  go_wp2
                  go_roundw
                  case rel => exact ⟨upd s kk nv2, true, kk, rfl, by omega, by go_num, Lib.hid (by simpa using HMS.out), HSET.out, HB.out.setCell hlbB _⟩
                  case measure => simp [intOf]
                | false =>
                  go_wp2
                  go_roundw
                  case rel => exact ⟨upd s kk nv2, ((nv2 : Int) != sk), kk, rfl, by omega, by go_num, Lib.hid (by simpa [bne] using HMS.out), HSET.out, HB.out.setCell hlbB _⟩
                  case measure => simp [intOf]
end Go.Proofs.YtakeacndmnnbmaaGreat
