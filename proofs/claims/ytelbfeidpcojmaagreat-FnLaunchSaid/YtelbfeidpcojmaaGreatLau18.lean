/- Part 18 of what the claim needs. -/
import Derived.Test.YtelbfeidpcojmaaGreatLau2
import Derived.Test.YtelbfeidpcojmaaGreatLau5
import Derived.Test.YtelbfeidpcojmaaGreatLau8
import Derived.Test.YtelbfeidpcojmaaGreatLau12
import Derived.Test.YtelbfeidpcojmaaGreatLau14
import Derived.Test.YtelbfeidpcojmaaGreatLau15
import Derived.Test.YtelbfeidpcojmaaGreatLau16
import Derived.Test.YtelbfeidpcojmaaGreatLau17
import Derived.Deep.RegionHeld3
namespace Go.Proofs.YtelbfeidpcojmaaGreat
open Go.RowKit
set_option linter.unusedVariables false
set_option linter.unusedSimpArgs false

theorem pow_lt16 {n : Nat} (h : n ≤ 3) : 2 ^ n < 16 := by
  rcases (show n = 0 ∨ n = 1 ∨ n = 2 ∨ n = 3 by omega) with rfl | rfl | rfl | rfl <;> decide

/-- What one place's set is after j successors. -/
def accS (l : List Cd) (s : Nat → Nat) (k S0 ws j : Nat) : Nat := S0 ||| mdiff (outTo l s k j) ws
theorem accS_succ {l : List Cd} {s : Nat → Nat} {k S0 ws j t : Nat} (h : (succs l k)[j]? = some t) : accS l s k S0 ws (j + 1) = accS l s k S0 ws j ||| mdiff (s t) ws := by
  unfold accS
  rw [outTo_succ h, mdiff_or, Nat.or_assoc]
theorem accS_zero (l : List Cd) (s : Nat → Nat) (k S0 ws : Nat) : accS l s k S0 ws 0 = S0 := by
  simp [accS, outTo, mdiff_zero]
theorem accS_all (l : List Cd) (s : Nat → Nat) (k : Nat) : accS l s k (reads (cdAt l k) ||| loopSet l k) (wset (cdAt l k)) (succs l k).length = liveAt l s k := by
  unfold accS liveAt
  rw [outTo_all, Nat.or_comm, Nat.or_assoc]
theorem accS_lt {l : List Cd} {s : Nat → Nat} {k S0 ws : Nat} (hs : ∀ k, s k < 16) (h0 : S0 < 16) (j : Nat) : accS l s k S0 ws j < 16 := Nat.or_lt_two_pow (n := 4) h0 (mdiff_lt (outTo_lt hs l k j))

def ISRel (l : List Cd) (w3 : World) (lb : Nat) (cv : Value) (wr : World) : Prop :=
  ∃ (s : Nat → Nat) (ch : Bool), cv = .bool ch ∧ Hid (LInv l s) ∧ OI wr w3.heap.size (some ⟨lb, 0, none⟩) (l.length + 1) (l.length + 1) (lvRow s (l.length + 1)) ∧ Below w3.heap.size w3 wr ∧ Hid (ch = false → s = liveFix l)

set_option maxRecDepth 100000 in
set_option maxHeartbeats 16000000 in
theorem iliveSets_c (A : Option Addr) (c : Nat) (l : List Cd) (w : World) (hA : RdC w w.heap.size A l) (hp : pv l = true) :
    Calls Tryz.prog 135 #[.slice A l.length c] w (RetI w (lvRow (liveFix l) (l.length + 1))) := by
  have h40 := (pv_iff.1 hp).1
  have HP := Lib.hid hp
  have hmk : ∀ w : World, (Instr.makeSlice 24 (.int .i64 ((l.length : Int) + 1)) (.int .i64 ((l.length : Int) + 1))).run Tryz.prog w = .ok (.slice (some ⟨w.heap.size, 0, none⟩) (l.length + 1) (l.length + 1)) (w.alloc (.cells (zeroRow (.int .i64 0) (l.length + 1)) 3)) := by
    have := make_int (l.length + 1) (by omega)
    simpa using this
  go_enter Tryz.func135, Tryz.ntmps135
  go_wp2_with fail
  refine (iGraphOf_c A c l w hA hp).mono ?_
  rintro e w1 ⟨Ag, cg, rfl, hG, hb1⟩
  replace hG := hG.rd
  have hA1 := (hA.below hb1).more hb1.size
  go_wp2_with fail
  refine (blocks_c A c l w1 hA1 (by omega) (pv_all hp)).mono ?_
  rintro e w2 ⟨hb2, hcase⟩
  rcases hcase with ⟨_, rfl, ga, oth, en, As, cs, hW, hP⟩ | ⟨hp2, _⟩
  case inr => exact absurd (pv_iff.1 HP.out).2 hp2
  have hBK := BK.of hW hP
  have hbW := below_trans hb1 (Nat.le_refl _) hb2
  have hA2 := (hA.below hbW).more hbW.size
  have hG2 := (hG.below hb2).more hb2.size
  have hbsz := hbW.size
  generalize hob : w1.heap.size + 1 = ob at *
  clear hW hP hob hG hA1
  go_wp2_with fail
  have hrow : OI (w2.alloc (.cells (zeroRow (.int .i64 0) (l.length + 1)) 3)) w2.heap.size (some ⟨w2.heap.size, 0, none⟩) (l.length + 1) (l.length + 1) (lvRow (fun _ => 0) (l.length + 1)) := by
    have := OR.lit w2 w2.heap.size 3 1 (l.length + 1) (zeroRow (.int .i64 0) (l.length + 1)) (Nat.le_refl _) (by omega) (by rw [zeroRow_size]; omega)
    have e : (zeroRow (.int .i64 0) (l.length + 1)).toList = (lvRow (fun _ => 0) (l.length + 1)).map (Value.int .i64) := by
      have e2 : lvRow (fun _ => 0) (l.length + 1) = List.replicate (l.length + 1) 0 := by
        apply List.ext_getElem?
        intro j
        by_cases h : j < l.length + 1 <;> simp [lvRow, h]
      rw [e2, List.map_replicate]
      exact toList_madeCells_one _ _
    rw [e] at this
    exact this
  have hbL := (Below.refl w2.heap.size w2).alloc (Nat.le_refl _) (.cells (zeroRow (.int .i64 0) (l.length + 1)) 3)
  generalize w2.alloc (.cells (zeroRow (.int .i64 0) (l.length + 1)) 3) = w3 at *
  obtain ⟨lb, hlb⟩ : ∃ lb, lb = w2.heap.size := ⟨_, rfl⟩
  rw [← hlb]
  conv at hrow => arg 3; rw [← hlb]
  have hlbB : w2.heap.size ≤ lb := by omega
  clear hmk hlb
  go_loopw [8] (fun cv wr => ISRel l w2 lb cv wr) (fun cv wr => 2 * (15 * l.length - cellSum wr lb l.length) + flagN cv)
  case atStart => exact ⟨fun _ => 0, true, rfl, Lib.hid (LInv.start l), hrow, hbL, Lib.hid (fun h => by cases h)⟩
  case round =>
    clear hrow hbL
    obtain ⟨s0, ch, rfl, HI, ho0, hb0, HF⟩ := hrel
    cases ch with
    | false =>
      have HS := Lib.hid (HF.out rfl)
      clear HF
      go_wp2
      go_ret
      rw [← HS.out]
      exact RetI.mono (RetI.of ho0 hb0) hbW
    | true =>
      have hq : IntKind.i64.wrap ((l.length : Int) - 1) = (l.length : Int) - 1 := IntWalk.i64_in _ (by omega)
      obtain ⟨wo, rfl⟩ : ∃ wo, wo = wr := ⟨_, rfl⟩
      go_wp2_with fail
      go_loopw [8, 9] (fun cv kv wr => LMRel l w2 lb s0 cv kv wr) (fun _ kv _ => (intOf kv + 1).toNat)
      case atStart => exact ⟨s0, false, l.length, rfl, Nat.le_refl _, rfl, Lib.hid (Mid.start HI.out), ho0, hb0⟩
      case round =>
        obtain ⟨s, ch, k, rfl, hk, rfl, HM, ho, hb⟩ := hrel
        rcases Nat.eq_zero_or_pos k with rfl | hk0
        · have hd : decide ((((0 : Nat) : Int) - 1) ≥ 0) = false := by simp
          have HO := Lib.hid ho
          have HO0 := Lib.hid ho0
          clear ho ho0 hG2
          go_wp2
          refine ⟨⟨s, ch, rfl, Lib.hid HM.out.1, HO.out, hb, Lib.hid (fun h => by subst h; exact HM.out.done)⟩, ?_⟩
          have e1 := cellSum_eq HO.out l.length (by omega)
          have e0 := cellSum_eq HO0.out l.length (by omega)
          rw [e1, e0]
          have hle := sumN_le HM.out.1.b16 l.length
          cases ch with
          | true => have := HM.out.2.2 rfl; simp only [flagN]; omega
          | false => have := (HM.out.2.1 rfl).1; rw [this]; simp only [flagN]; omega
        · obtain ⟨kk, rfl⟩ : ∃ kk, k = kk + 1 := ⟨k - 1, by omega⟩
          have hkv : (((kk + 1 : Nat) : Int) - 1) = (kk : Int) := by omega
          rw [hkv]
          have hklt : kk < l.length := by omega
          have hsz := hb.size
          have hx := cdAt_get' hklt
          have hvx := pv_all hp _ (List.mem_of_getElem? hx)
          have HACC := Lib.hid (accS_all l s kk)
          have hrd := reads_lt (cdAt l kk)
          have hws := wset_lt (cdAt l kk)
          have HB16 := Lib.hid HM.out.1.b16
          generalize hcd : cdAt l kk = x at hx hvx HACC hrd hws
          have HCD := Lib.hid hcd
          obtain ⟨b, off, y, rfl, hbB, hy, d0, d1, d2, d3⟩ := (hA2.below hb).at_ hklt
          rw [hx] at hy
          injection hy with hy
          subst hy
          have HX := Lib.hid hx
          have HVX := Lib.hid hvx
          have hX4 := Ext.alloc wr (.cells #[.int .i64 x.op, .int .i64 x.a, .int .i64 x.b, .int .i64 x.c] 76)
          have hC4 := heap_alloc_new wr (.cells #[.int .i64 x.op, .int .i64 x.a, .int .i64 x.b, .int .i64 x.c] 76)
          have HX4 := Lib.hid hX4
          have HC4 := Lib.hid hC4
          clear hx hvx hcd hX4 hC4
          go_wp2_with fail
          refine (iCodeReads_c x _).mono ?_
          rintro e w5 ⟨rfl, hb5⟩
          have hX5 := HX4.out.trans (Ext.of_below hb5)
          have hC5 := (Ext.of_below hb5).heap_ HC4.out
          have ho5 := OR.ext ho hX5
          have hbW5 : Below w2.heap.size w2 w5 := hb.trans ((hX5.below).mono hsz)
          have hs5 := hbW5.size
          have hcl : wr.heap.size < w5.heap.size := lt_of_block hC5
          generalize wr.heap.size = C at *
          have c0 := cell_of_heap hC5 0
          have HC5 := Lib.hid hC5
          clear d0 d1 d2 d3 hb5 hX5 hC5 ho
          cases e14 : x.op == 14 with
          | false =>
            have HL0 := Lib.hid (show loopSet l kk = 0 from loopSet_no (.inl (by rw [← cdAt_op, HCD.out]; exact beq_eq_false_iff_ne.1 e14)))
            have HS0 := Lib.hid (show reads x ||| loopSet l kk = reads x by rw [HL0.out, Nat.or_zero])
            obtain ⟨S0, hSE⟩ : ∃ S0 : Nat, S0 = reads x := ⟨_, rfl⟩
            have hS0 : S0 < 16 := by rw [hSE]; exact hrd
            have HSE := Lib.hid hSE
            clear hSE
            obtain ⟨gb, goff, A', c', rfl, hgB, g0, hr⟩ := (hG2.below hbW5).at_ (k := kk) (by omega)
            have hsl : (succI l kk).length = (succs l kk).length := by rw [succI_lt hklt, List.length_map]
            rw [hsl] at g0
            have hle' := Lib.hid (succs_le HP.out hklt)
            have htwo := succs_two l kk
            have hHC := HC5
            have hkI : (kk : Int) < ((l.length + 1 : Nat) : Int) := by omega
            go_wp2_with fail
            clear c0
            obtain ⟨wi, rfl⟩ : ∃ wi, wi = w5 := ⟨_, rfl⟩
            go_loopw [11, 64] (fun sv jv wr => ∃ j : Nat, j ≤ (succs l kk).length ∧ jv = .int .i64 j ∧ sv = .int .i64 (accS l s kk S0 (wset x) j : Nat) ∧ Below wi.heap.size wi wr) (fun _ j _ => (succs l kk).length - (intOf j).toNat)
            case atStart => exact ⟨0, Nat.zero_le _, rfl, by first | (rw [accS_zero, HSE.out]; done) | (rw [accS_zero, HSE.out]; rfl) | (rw [accS_zero, HSE.out, hsh]), Below.refl _ _⟩
            case round =>
              (try clear hsh); (try clear v0 v1); (try clear o0 p0)
              obtain ⟨j, hj, rfl, rfl, hbj⟩ := hrel
              have hsj := hbj.size
              have hoj : OI wr w2.heap.size (some ⟨lb, 0, none⟩) (l.length + 1) (l.length + 1) (lvRow s (l.length + 1)) := OR.below ho5 hbj (Nat.le_refl _)
              have hbWj := below_trans hbW5 (Nat.le_refl _) hbj
              by_cases hlt : j < (succs l kk).length
              · have ht : (succs l kk)[j]? = some ((succs l kk)[j]) := List.getElem?_eq_getElem hlt
                generalize (succs l kk)[j] = t at ht
                have htl : t ≤ l.length := hle'.out t (List.mem_of_getElem? ht)
                have htI : (succI l kk)[j]? = some (t : Int) := by rw [succI_lt hklt, List.getElem?_map, ht]; rfl
                obtain ⟨b2, off2, y, rfl, hb2B, hy, g2⟩ := (hr.below (hbj.mono hbW5.size)).at_ (k := j) (by omega)
                rw [htI] at hy
                injection hy with hy
                subst hy
                have cS := (OI.at0 hoj).1 t _ (lvRow_get s (show t < l.length + 1 by omega))
                have cC := (Ext.of_below hbj).heap_ hHC.out
                have k0 := cell_of_heap cC 0
                have k1 := cell_of_heap cC 1
                have k2 := cell_of_heap cC 2
                have k3 := cell_of_heap cC 3
                have hst := HB16.out t
                have hau := accS_lt HB16.out hS0 (ws := wset x) (l := l) (k := kk) j
                have HE := Lib.hid (accS_succ (s := s) (S0 := S0) (ws := wset x) ht)
                have hmd := mdiff_lt (w := wset x) hst
                have hor := or16 hau hmd
                have han := bits_andNot64 (s t) (wset x) (by omega) (by omega)
                have htn : (t : Int) < ((l.length + 1 : Nat) : Int) := by omega
                have htn2 : (t : Int) < (l.length : Int) + 1 := by omega
                have hjI : (j : Int) < ((succs l kk).length : Int) := by omega
                have hww : Below wi.heap.size wi wr.drew := Below.drew hbj
                generalize accS l s kk S0 (wset x) j = u at *
                generalize s t = st at *
                clear ht htI hoj cC
                go_wp2_with fail
                go_region_held3 (fun w' => w'.cell? ⟨lb, t, none⟩ = some (.int .i64 st) ∧ w'.cell? ⟨C, 0, none⟩ = some (.int .i64 x.op) ∧ w'.cell? ⟨C, 1, none⟩ = some (.int .i64 x.a) ∧ w'.cell? ⟨C, 2, none⟩ = some (.int .i64 x.b) ∧ w'.cell? ⟨C, 3, none⟩ = some (.int .i64 x.c) ∧ Below wi.heap.size wi w')
                  (first
                    | (go_split_ands
                       exact ⟨cell_kept hbz (by assumption), cell_kept hbz (by assumption), cell_kept hbz (by assumption), cell_kept hbz (by assumption), cell_kept hbz (by assumption), below_trans (by assumption) (Nat.le_refl _) hbz⟩)
                    | (exact ⟨cS, k0, k1, k2, k3, hww⟩)
                    | fail)
                  (first | (go_at_call 133; refine (written_c x _).mono ?_; rintro e wz ⟨rfl, hbz⟩))
                all_goals (
                  rename_i hh
                  obtain ⟨-, -, -, -, -, hbz2⟩ := hh
                  clear cS k0 k1 k2 k3 g2
                  go_wp2
                  first
                    | (refine ⟨⟨j + 1, by omega, by go_num, by rw [HE.out], hbz2⟩, ?_⟩; simp [intOf]; omega)
                    | (go_roundw
                       case rel => exact ⟨j + 1, by omega, by go_num, by rw [HE.out], hbz2⟩
                       case measure => simp [intOf]; omega))
              · obtain rfl : j = (succs l kk).length := by omega
                have HLV2 := Lib.hid (show accS l s kk S0 (wset x) (succs l kk).length = liveAt l s kk from by rw [HSE.out, ← HS0.out]; exact HACC.out)
                have HSET := Lib.hid (show OI (wr.setCell ⟨lb, kk, none⟩ (.int .i64 (liveAt l s kk))) w2.heap.size (some ⟨lb, 0, none⟩) (l.length + 1) (l.length + 1) (lvRow (upd s kk (liveAt l s kk)) (l.length + 1)) by
                  have := (OI.at0 hoj).2.2 kk (liveAt l s kk : Int)
                  rwa [lvRow_set] at this)
                have f1 := (OI.at0 hoj).2.1 kk
                have cS := (OI.at0 hoj).1 kk _ (lvRow_get s (show kk < l.length + 1 by omega))
                have HMS := Lib.hid (show Mid l s0 (upd s kk (liveAt l s kk)) kk (ch || !((liveAt l s kk : Int) == (s kk : Int))) from HM.out.step HP.out (show kk < l.length by omega))
                rw [HLV2.out]
                have HBJ := Lib.hid hbWj
                generalize (s kk : Int) = sk at *
                generalize liveAt l s kk = nv at *
                clear hoj HACC HLV2 g0
                cases ch with
                | true =>
                  go_wp2
                  go_roundw
                  case rel => exact ⟨upd s kk nv, true, kk, rfl, by omega, by go_num, Lib.hid (by simpa using HMS.out), HSET.out, HBJ.out.setCell hlbB _⟩
                  case measure => simp [intOf]
                | false =>
                  go_wp2
                  go_roundw
                  case rel => exact ⟨upd s kk nv, ((nv : Int) != sk), kk, rfl, by omega, by go_num, Lib.hid (by simpa [bne] using HMS.out), HSET.out, HBJ.out.setCell hlbB _⟩
                  case measure => simp [intOf]
          | true =>
            have h14 : x.op = 14 := beq_iff_eq.1 e14
            obtain ⟨a1, a2, a3⟩ := around_in hp HX.out (.inr h14)
            have hr0 : reads x = 0 := by simp [reads, h14]
            have HR0 := Lib.hid (show loopSet l kk = if opAt l (aroundN l kk) == 13 then 2 ^ (cdAt l (aroundN l kk)).a.toNat else 0 by simp [loopSet, ← cdAt_op l kk, HCD.out, h14])
            have hBK5 := hBK.below ((Ext.of_below (hbW5.mono (Nat.le_refl _))).below)
            have o0 := (OR.at0 hBK5.own).1 kk _ (ownRow_shut (ga := ga) HX.out (.inr h14))
            generalize aroundN l kk = r at a1 a2 a3 HR0 o0
            have hrl : r < l.length := by omega
            have hb0' := hBK5.bks r hrl a3
            have p0 : w5.cell? ⟨ga r, 0, none⟩ = some (.int .i64 r) := cell_of_heap hb0' 0
            have hxr := cdAt_get' hrl
            have hopr := cdAt_op l r
            have hvr := cvOk_a (pv_all hp _ (List.mem_of_getElem? hxr))
            generalize cdAt l r = y at hxr hopr a3 hvr HR0
            obtain ⟨b2, off2, y2, e2, -, hy2, u0, u1, u2, u3⟩ := (hA2.below hbW5).at_ hrl
            injection e2 with e2
            injection e2 with e2 e3
            subst e2 e3
            rw [hxr] at hy2
            injection hy2 with hy2
            subst hy2
            rw [← hopr] at HR0
            have hrI : (r : Int) < (l.length : Int) := by omega
            have hkI : (kk : Int) < (l.length : Int) := by omega
            have hX6 := Ext.alloc w5 (.cells #[.int .i64 y.op, .int .i64 y.a, .int .i64 y.b, .int .i64 y.c] 76)
            have hN6 := heap_alloc_new w5 (.cells #[.int .i64 y.op, .int .i64 y.a, .int .i64 y.b, .int .i64 y.c] 76)
            have ho6 := OR.ext ho5 hX6
            have hbW6 : Below w2.heap.size w2 (w5.alloc (.cells #[.int .i64 y.op, .int .i64 y.a, .int .i64 y.b, .int .i64 y.c] 76)) := hbW5.alloc hs5 _
            have HC6 := Lib.hid (hX6.heap_ HC5.out)
            rw [hr0]
            clear hxr hopr h14 hb0' hBK5 hX6 a1
            go_upto_region 14 with (fail)
            generalize w5.alloc (.cells #[.int .i64 y.op, .int .i64 y.a, .int .i64 y.b, .int .i64 y.c] 76) = w6 at *
            have v0 := cell_of_heap hN6 0
            have v1 := cell_of_heap hN6 1
            have hbw6 := hbW6
            have how6 := ho6
            have HCw6 := HC6
            clear o0 p0 u0 u1 u2 u3 hN6 ho5
            cases ey : y.op == 13 with
            | false =>
              have HS0 := Lib.hid (show reads x ||| loopSet l kk = 0 by rw [hr0, HR0.out, ey]; simp)
              clear v1
              obtain ⟨S0, hSE⟩ : ∃ S0 : Nat, S0 = (0 : Nat) := ⟨_, rfl⟩
              have hS0 : S0 < 16 := by rw [hSE]; exact (by omega)
              have HSE := Lib.hid hSE
              clear hSE
              obtain ⟨gb, goff, A', c', rfl, hgB, g0, hr⟩ := (hG2.below hbw6).at_ (k := kk) (by omega)
              have hsl : (succI l kk).length = (succs l kk).length := by rw [succI_lt hklt, List.length_map]
              rw [hsl] at g0
              have hle' := Lib.hid (succs_le HP.out hklt)
              have htwo := succs_two l kk
              have hHC := HCw6
              have hkI : (kk : Int) < ((l.length + 1 : Nat) : Int) := by omega
              go_wp2_with fail
              clear c0
              obtain ⟨wi, rfl⟩ : ∃ wi, wi = w6 := ⟨_, rfl⟩
              go_loopw [11, 64] (fun sv jv wr => ∃ j : Nat, j ≤ (succs l kk).length ∧ jv = .int .i64 j ∧ sv = .int .i64 (accS l s kk S0 (wset x) j : Nat) ∧ Below wi.heap.size wi wr) (fun _ j _ => (succs l kk).length - (intOf j).toNat)
              case atStart => exact ⟨0, Nat.zero_le _, rfl, by first | (rw [accS_zero, HSE.out]; done) | (rw [accS_zero, HSE.out]; rfl) | (rw [accS_zero, HSE.out, hsh]), Below.refl _ _⟩
              case round =>
                (try clear hsh); (try clear v0 v1); (try clear o0 p0)
                obtain ⟨j, hj, rfl, rfl, hbj⟩ := hrel
                have hsj := hbj.size
                have hoj : OI wr w2.heap.size (some ⟨lb, 0, none⟩) (l.length + 1) (l.length + 1) (lvRow s (l.length + 1)) := OR.below how6 hbj (Nat.le_refl _)
                have hbWj := below_trans hbw6 (Nat.le_refl _) hbj
                by_cases hlt : j < (succs l kk).length
                · have ht : (succs l kk)[j]? = some ((succs l kk)[j]) := List.getElem?_eq_getElem hlt
                  generalize (succs l kk)[j] = t at ht
                  have htl : t ≤ l.length := hle'.out t (List.mem_of_getElem? ht)
                  have htI : (succI l kk)[j]? = some (t : Int) := by rw [succI_lt hklt, List.getElem?_map, ht]; rfl
                  obtain ⟨b2, off2, y, rfl, hb2B, hy, g2⟩ := (hr.below (hbj.mono hbw6.size)).at_ (k := j) (by omega)
                  rw [htI] at hy
                  injection hy with hy
                  subst hy
                  have cS := (OI.at0 hoj).1 t _ (lvRow_get s (show t < l.length + 1 by omega))
                  have cC := (Ext.of_below hbj).heap_ hHC.out
                  have k0 := cell_of_heap cC 0
                  have k1 := cell_of_heap cC 1
                  have k2 := cell_of_heap cC 2
                  have k3 := cell_of_heap cC 3
                  have hst := HB16.out t
                  have hau := accS_lt HB16.out hS0 (ws := wset x) (l := l) (k := kk) j
                  have HE := Lib.hid (accS_succ (s := s) (S0 := S0) (ws := wset x) ht)
                  have hmd := mdiff_lt (w := wset x) hst
                  have hor := or16 hau hmd
                  have han := bits_andNot64 (s t) (wset x) (by omega) (by omega)
                  have htn : (t : Int) < ((l.length + 1 : Nat) : Int) := by omega
                  have htn2 : (t : Int) < (l.length : Int) + 1 := by omega
                  have hjI : (j : Int) < ((succs l kk).length : Int) := by omega
                  have hww : Below wi.heap.size wi wr.drew := Below.drew hbj
                  generalize accS l s kk S0 (wset x) j = u at *
                  generalize s t = st at *
                  clear ht htI hoj cC
                  go_wp2_with fail
                  go_region_held3 (fun w' => w'.cell? ⟨lb, t, none⟩ = some (.int .i64 st) ∧ w'.cell? ⟨C, 0, none⟩ = some (.int .i64 x.op) ∧ w'.cell? ⟨C, 1, none⟩ = some (.int .i64 x.a) ∧ w'.cell? ⟨C, 2, none⟩ = some (.int .i64 x.b) ∧ w'.cell? ⟨C, 3, none⟩ = some (.int .i64 x.c) ∧ Below wi.heap.size wi w')
                    (first
                      | (go_split_ands
                         exact ⟨cell_kept hbz (by assumption), cell_kept hbz (by assumption), cell_kept hbz (by assumption), cell_kept hbz (by assumption), cell_kept hbz (by assumption), below_trans (by assumption) (Nat.le_refl _) hbz⟩)
                      | (exact ⟨cS, k0, k1, k2, k3, hww⟩)
                      | fail)
                    (first | (go_at_call 133; refine (written_c x _).mono ?_; rintro e wz ⟨rfl, hbz⟩))
                  all_goals (
                    rename_i hh
                    obtain ⟨-, -, -, -, -, hbz2⟩ := hh
                    clear cS k0 k1 k2 k3 g2
                    go_wp2
                    first
                      | (refine ⟨⟨j + 1, by omega, by go_num, by rw [HE.out], hbz2⟩, ?_⟩; simp [intOf]; omega)
                      | (go_roundw
                         case rel => exact ⟨j + 1, by omega, by go_num, by rw [HE.out], hbz2⟩
                         case measure => simp [intOf]; omega))
                · obtain rfl : j = (succs l kk).length := by omega
                  have HLV2 := Lib.hid (show accS l s kk S0 (wset x) (succs l kk).length = liveAt l s kk from by rw [HSE.out, ← HS0.out]; exact HACC.out)
                  have HSET := Lib.hid (show OI (wr.setCell ⟨lb, kk, none⟩ (.int .i64 (liveAt l s kk))) w2.heap.size (some ⟨lb, 0, none⟩) (l.length + 1) (l.length + 1) (lvRow (upd s kk (liveAt l s kk)) (l.length + 1)) by
                    have := (OI.at0 hoj).2.2 kk (liveAt l s kk : Int)
                    rwa [lvRow_set] at this)
                  have f1 := (OI.at0 hoj).2.1 kk
                  have cS := (OI.at0 hoj).1 kk _ (lvRow_get s (show kk < l.length + 1 by omega))
                  have HMS := Lib.hid (show Mid l s0 (upd s kk (liveAt l s kk)) kk (ch || !((liveAt l s kk : Int) == (s kk : Int))) from HM.out.step HP.out (show kk < l.length by omega))
                  rw [HLV2.out]
                  have HBJ := Lib.hid hbWj
                  generalize (s kk : Int) = sk at *
                  generalize liveAt l s kk = nv at *
                  clear hoj HACC HLV2 g0
                  cases ch with
                  | true =>
                    go_wp2
                    go_roundw
                    case rel => exact ⟨upd s kk nv, true, kk, rfl, by omega, by go_num, Lib.hid (by simpa using HMS.out), HSET.out, HBJ.out.setCell hlbB _⟩
                    case measure => simp [intOf]
                  | false =>
                    go_wp2
                    go_roundw
                    case rel => exact ⟨upd s kk nv, ((nv : Int) != sk), kk, rfl, by omega, by go_num, Lib.hid (by simpa [bne] using HMS.out), HSET.out, HBJ.out.setCell hlbB _⟩
                    case measure => simp [intOf]
            | true =>
              obtain ⟨ya, hya⟩ := Int.eq_ofNat_of_zero_le hvr.1
              have hya3 : ya ≤ 3 := by omega
              obtain ⟨P, hPe⟩ : ∃ P : Nat, P = 2 ^ ya := ⟨_, rfl⟩
              have HS0 := Lib.hid (show reads x ||| loopSet l kk = P by rw [hPe, hr0, HR0.out, ey, hya, Nat.zero_or]; rfl)
              rw [hya] at v1
              have hsh : wrap64 (2 ^ ya) = (P : Int) := by rw [hPe]; exact shl4 hya3
              have hp8 : P < 16 := by rw [hPe]; exact pow_lt16 hya3
              clear hya hPe
              obtain ⟨S0, hSE⟩ : ∃ S0 : Nat, S0 = P := ⟨_, rfl⟩
              have hS0 : S0 < 16 := by rw [hSE]; exact hp8
              have HSE := Lib.hid hSE
              clear hSE
              obtain ⟨gb, goff, A', c', rfl, hgB, g0, hr⟩ := (hG2.below hbw6).at_ (k := kk) (by omega)
              have hsl : (succI l kk).length = (succs l kk).length := by rw [succI_lt hklt, List.length_map]
              rw [hsl] at g0
              have hle' := Lib.hid (succs_le HP.out hklt)
              have htwo := succs_two l kk
              have hHC := HCw6
              have hkI : (kk : Int) < ((l.length + 1 : Nat) : Int) := by omega
              go_wp2_with fail
              clear c0
              obtain ⟨wi, rfl⟩ : ∃ wi, wi = w6 := ⟨_, rfl⟩
              go_loopw [11, 64] (fun sv jv wr => ∃ j : Nat, j ≤ (succs l kk).length ∧ jv = .int .i64 j ∧ sv = .int .i64 (accS l s kk S0 (wset x) j : Nat) ∧ Below wi.heap.size wi wr) (fun _ j _ => (succs l kk).length - (intOf j).toNat)
              case atStart => exact ⟨0, Nat.zero_le _, rfl, by first | (rw [accS_zero, HSE.out]; done) | (rw [accS_zero, HSE.out]; rfl) | (rw [accS_zero, HSE.out, hsh]), Below.refl _ _⟩
              case round =>
                (try clear hsh); (try clear v0 v1); (try clear o0 p0)
                obtain ⟨j, hj, rfl, rfl, hbj⟩ := hrel
                have hsj := hbj.size
                have hoj : OI wr w2.heap.size (some ⟨lb, 0, none⟩) (l.length + 1) (l.length + 1) (lvRow s (l.length + 1)) := OR.below how6 hbj (Nat.le_refl _)
                have hbWj := below_trans hbw6 (Nat.le_refl _) hbj
                by_cases hlt : j < (succs l kk).length
                · have ht : (succs l kk)[j]? = some ((succs l kk)[j]) := List.getElem?_eq_getElem hlt
                  generalize (succs l kk)[j] = t at ht
                  have htl : t ≤ l.length := hle'.out t (List.mem_of_getElem? ht)
                  have htI : (succI l kk)[j]? = some (t : Int) := by rw [succI_lt hklt, List.getElem?_map, ht]; rfl
                  obtain ⟨b2, off2, y, rfl, hb2B, hy, g2⟩ := (hr.below (hbj.mono hbw6.size)).at_ (k := j) (by omega)
                  rw [htI] at hy
                  injection hy with hy
                  subst hy
                  have cS := (OI.at0 hoj).1 t _ (lvRow_get s (show t < l.length + 1 by omega))
                  have cC := (Ext.of_below hbj).heap_ hHC.out
                  have k0 := cell_of_heap cC 0
                  have k1 := cell_of_heap cC 1
                  have k2 := cell_of_heap cC 2
                  have k3 := cell_of_heap cC 3
                  have hst := HB16.out t
                  have hau := accS_lt HB16.out hS0 (ws := wset x) (l := l) (k := kk) j
                  have HE := Lib.hid (accS_succ (s := s) (S0 := S0) (ws := wset x) ht)
                  have hmd := mdiff_lt (w := wset x) hst
                  have hor := or16 hau hmd
                  have han := bits_andNot64 (s t) (wset x) (by omega) (by omega)
                  have htn : (t : Int) < ((l.length + 1 : Nat) : Int) := by omega
                  have htn2 : (t : Int) < (l.length : Int) + 1 := by omega
                  have hjI : (j : Int) < ((succs l kk).length : Int) := by omega
                  have hww : Below wi.heap.size wi wr.drew := Below.drew hbj
                  generalize accS l s kk S0 (wset x) j = u at *
                  generalize s t = st at *
                  clear ht htI hoj cC
                  go_wp2_with fail
                  go_region_held3 (fun w' => w'.cell? ⟨lb, t, none⟩ = some (.int .i64 st) ∧ w'.cell? ⟨C, 0, none⟩ = some (.int .i64 x.op) ∧ w'.cell? ⟨C, 1, none⟩ = some (.int .i64 x.a) ∧ w'.cell? ⟨C, 2, none⟩ = some (.int .i64 x.b) ∧ w'.cell? ⟨C, 3, none⟩ = some (.int .i64 x.c) ∧ Below wi.heap.size wi w')
                    (first
                      | (go_split_ands
                         exact ⟨cell_kept hbz (by assumption), cell_kept hbz (by assumption), cell_kept hbz (by assumption), cell_kept hbz (by assumption), cell_kept hbz (by assumption), below_trans (by assumption) (Nat.le_refl _) hbz⟩)
                      | (exact ⟨cS, k0, k1, k2, k3, hww⟩)
                      | fail)
                    (first | (go_at_call 133; refine (written_c x _).mono ?_; rintro e wz ⟨rfl, hbz⟩))
                  all_goals (
                    rename_i hh
                    obtain ⟨-, -, -, -, -, hbz2⟩ := hh
                    clear cS k0 k1 k2 k3 g2
                    go_wp2
                    first
                      | (refine ⟨⟨j + 1, by omega, by go_num, by rw [HE.out], hbz2⟩, ?_⟩; simp [intOf]; omega)
                      | (go_roundw
                         case rel => exact ⟨j + 1, by omega, by go_num, by rw [HE.out], hbz2⟩
                         case measure => simp [intOf]; omega))
                · obtain rfl : j = (succs l kk).length := by omega
                  have HLV2 := Lib.hid (show accS l s kk S0 (wset x) (succs l kk).length = liveAt l s kk from by rw [HSE.out, ← HS0.out]; exact HACC.out)
                  have HSET := Lib.hid (show OI (wr.setCell ⟨lb, kk, none⟩ (.int .i64 (liveAt l s kk))) w2.heap.size (some ⟨lb, 0, none⟩) (l.length + 1) (l.length + 1) (lvRow (upd s kk (liveAt l s kk)) (l.length + 1)) by
                    have := (OI.at0 hoj).2.2 kk (liveAt l s kk : Int)
                    rwa [lvRow_set] at this)
                  have f1 := (OI.at0 hoj).2.1 kk
                  have cS := (OI.at0 hoj).1 kk _ (lvRow_get s (show kk < l.length + 1 by omega))
                  have HMS := Lib.hid (show Mid l s0 (upd s kk (liveAt l s kk)) kk (ch || !((liveAt l s kk : Int) == (s kk : Int))) from HM.out.step HP.out (show kk < l.length by omega))
                  rw [HLV2.out]
                  have HBJ := Lib.hid hbWj
                  generalize (s kk : Int) = sk at *
                  generalize liveAt l s kk = nv at *
                  clear hoj HACC HLV2 g0
                  cases ch with
                  | true =>
                    go_wp2
                    go_roundw
                    case rel => exact ⟨upd s kk nv, true, kk, rfl, by omega, by go_num, Lib.hid (by simpa using HMS.out), HSET.out, HBJ.out.setCell hlbB _⟩
                    case measure => simp [intOf]
                  | false =>
                    go_wp2
                    go_roundw
                    case rel => exact ⟨upd s kk nv, ((nv : Int) != sk), kk, rfl, by omega, by go_num, Lib.hid (by simpa [bne] using HMS.out), HSET.out, HBJ.out.setCell hlbB _⟩
                    case measure => simp [intOf]


def IdxPost (l : List Int) (v i : Int) : Prop := (∃ k : Nat, i = (k : Int) ∧ k < l.length ∧ cN l k = v ∧ ∀ j, j < k → cN l j ≠ v) ∨ (i = -1 ∧ ∀ j, j < l.length → cN l j ≠ v)

set_option maxRecDepth 100000 in
set_option maxHeartbeats 2000000 in
theorem sliceIndex_c (A : Option Addr) (c : Nat) (l : List Int) (v : Int) (w : World) (hA : RdI w w.heap.size A l) (hl : l.length ≤ 1000000000) :
    Calls Tryz.prog 88 #[.slice A l.length c, .int .i64 v] w fun e w' => ∃ i : Int, e = .returned (.int .i64 i) ∧ IdxPost l v i ∧ w = w' := by
  go_enter Tryz.func88, Tryz.ntmps88
  go_wp2
  go_loop [8] (fun kv => ∃ k : Nat, k ≤ l.length ∧ kv = .int .i64 k ∧ Hid (∀ j, j < k → cN l j ≠ v)) (fun kv => l.length - (intOf kv).toNat)
  case atStart => exact ⟨0, Nat.zero_le _, rfl, Lib.hid (fun j hj => by omega)⟩
  case round =>
    obtain ⟨k, hk, rfl, HN⟩ := hrel
    by_cases hlt : k < l.length
    · obtain ⟨b, off, x, rfl, -, hx, dk⟩ := hA.at_ hlt
      have hxk : x = cN l k := by rw [cN_get hlt] at hx; injection hx with h; exact h.symm
      have HX := Lib.hid hxk
      have hkI : (k : Int) < (l.length : Int) := by omega
      clear hx hxk
      cases hv : v == x with
      | true =>
        have HV := Lib.hid hv
        go_wp2
        go_ret
        exact ⟨k, rfl, .inl ⟨k, rfl, hlt, by rw [← HX.out]; exact (beq_iff_eq.1 HV.out).symm, HN.out⟩, rfl⟩
      | false =>
        have HV := Lib.hid hv
        go_wp2
        go_round
        case rel =>
          refine ⟨k + 1, by omega, by go_num, Lib.hid fun j hj => ?_⟩
          by_cases e : j = k
          · subst e
            rw [← HX.out]
            exact fun h => by have := beq_eq_false_iff_ne.1 HV.out; exact this h.symm
          · exact HN.out j (by omega)
        case measure => simp [intOf]; omega
    · obtain rfl : k = l.length := by omega
      go_wp2
      go_ret
      exact ⟨-1, rfl, .inr ⟨rfl, HN.out⟩, rfl⟩

theorem idx_any {l : List Int} {v i : Int} (h : IdxPost l v i) : decide (0 ≤ i) = l.any (fun x => x == v) := by
  rcases h with ⟨k, rfl, hk, e, _⟩ | ⟨rfl, hne⟩
  · have : l.any (fun x => x == v) = true := List.any_eq_true.2 ⟨cN l k, List.mem_of_getElem? (cN_get hk), by rw [e]; simp⟩
    rw [this]; simp
  · have : l.any (fun x => x == v) = false := by
      rw [List.any_eq_false]
      intro x hx
      obtain ⟨k, hk⟩ := List.getElem?_of_mem hx
      have hkl := (List.getElem?_eq_some_iff.1 hk).1
      rw [cN_get hkl] at hk
      injection hk with hk
      have := hne k hkl
      simp; omega
    rw [this]; rfl

set_option maxRecDepth 100000 in
set_option maxHeartbeats 2000000 in
theorem sliceContains_c (A : Option Addr) (c : Nat) (l : List Int) (v : Int) (w : World) (hA : RdI w w.heap.size A l) (hl : l.length ≤ 1000000000) :
    Calls Tryz.prog 55 #[.slice A l.length c, .int .i64 v] w fun e w' => e = .returned (.bool (l.any fun x => x == v)) ∧ w = w' := by
  go_enter Tryz.func55, Tryz.ntmps55
  go_wp2_with fail
  refine (sliceIndex_c A c l v w hA hl).mono ?_
  rintro e w1 ⟨i, rfl, hi, rfl⟩
  have HI := Lib.hid (idx_any hi)
  clear hi
  go_wp2
  go_ret
  exact ⟨retb HI.out, rfl⟩


def IDRel (w2 : World) (l : List Cd) (ov kv : Value) (wr : World) : Prop :=
  ∃ (k : Nat) (A : Option Addr) (c : Nat), k ≤ l.length ∧ kv = .int .i64 k ∧ ov = .slice A (deadN l k).length c ∧ OI wr w2.heap.size A (deadN l k).length c (natL (deadN l k)) ∧ Below w2.heap.size w2 wr

set_option maxRecDepth 100000 in
set_option maxHeartbeats 8000000 in
theorem ideadPlaces_c (A : Option Addr) (c : Nat) (l : List Cd) (w : World) (hA : RdC w w.heap.size A l) (hp : pv l = true) :
    Calls Tryz.prog 109 #[.slice A l.length c] w (RetI w (deadL l)) := by
  have h40 := (pv_iff.1 hp).1
  have HP := Lib.hid hp
  have HFX := Lib.hid (fix_is hp)
  go_enter Tryz.func109, Tryz.ntmps109
  go_wp2_with fail
  refine (iGraphOf_c A c l w hA HP.out).mono ?_
  rintro e w1 ⟨Ag, cg, rfl, hG, hb1⟩
  replace hG := hG.rd
  go_wp2_with fail
  refine (iliveSets_c A c l w1 ((hA.below hb1).more hb1.size) HP.out).mono ?_
  rintro e w2 ⟨AL, cL, rfl, hoL, hb2⟩
  rw [lvRow_len]
  have hL := OwI.rd hoL
  have hbW := below_trans hb1 (Nat.le_refl _) hb2
  have hG2 := (hG.below hb2).more hb2.size
  have hA2 := (hA.below hbW).more hbW.size
  have hs2 := hbW.size
  clear hG hoL hb1 hb2
  go_wp2
  go_loopw [5, 17] (fun ov kv wr => IDRel w2 l ov kv wr) (fun _ kv _ => l.length - (intOf kv).toNat)
  case atStart => exact ⟨0, none, 0, Nat.zero_le _, rfl, rfl, OI.nil_ _ _, Below.refl _ _⟩
  case round =>
    obtain ⟨k, A1, c1, hk, rfl, rfl, ho, hb⟩ := hrel
    have hs := hb.size
    by_cases hlt : k < l.length
    · obtain ⟨b, off, x, rfl, hbB, hx, d0, d1, d2, d3⟩ := (hA2.below hb).at_ hlt
      have hcd := cdAt_get hx
      have HSU := Lib.hid (deadN_succ l k)
      have HDB := Lib.hid (show deadB l k = !(mdiff (wset x) (outSet l (liveFix l) k) == 0) by unfold deadB; rw [hcd])
      have hdl := deadN_len l k
      have hX4 := Ext.alloc wr (.cells #[.int .i64 x.op, .int .i64 x.a, .int .i64 x.b, .int .i64 x.c] 76)
      have hC4 := heap_alloc_new wr (.cells #[.int .i64 x.op, .int .i64 x.a, .int .i64 x.b, .int .i64 x.c] 76)
      have hb4 := hb.alloc hs (.cells #[.int .i64 x.op, .int .i64 x.a, .int .i64 x.b, .int .i64 x.c] 76)
      have ho4 := OR.ext ho hX4
      obtain ⟨gb, goff, A', c', rfl, hgB, g0, hr⟩ := (hG2.below hb4).at_ (k := k) (by omega)
      have hsl : (succI l k).length = (succs l k).length := by rw [succI_lt hlt, List.length_map]
      rw [hsl] at g0
      have hle' := Lib.hid (succs_le HP.out hlt)
      have htwo := succs_two l k
      have hkI : (k : Int) < ((l.length + 1 : Nat) : Int) := by omega
      have hL4 := hL.below hb4
      have HB16 := Lib.hid HFX.out.1.b16
      clear hx hcd
      go_wp2_with fail
      generalize wr.alloc (.cells #[.int .i64 x.op, .int .i64 x.a, .int .i64 x.b, .int .i64 x.c] 76) = w4 at *
      generalize wr.heap.size = C at *
      have k0 := cell_of_heap hC4 0
      have k1 := cell_of_heap hC4 1
      have k2 := cell_of_heap hC4 2
      have k3 := cell_of_heap hC4 3
      have hs4 := hb4.size
      clear d0 d1 d2 d3 hC4 hX4 ho
      go_loop [8, 27] (fun uv jv => ∃ j : Nat, j ≤ (succs l k).length ∧ jv = .int .i64 j ∧ uv = .int .i64 (outTo l (liveFix l) k j : Nat)) (fun _ j => (succs l k).length - (intOf j).toNat)
      case atStart => exact ⟨0, Nat.zero_le _, rfl, rfl⟩
      case round =>
        obtain ⟨j, hj, rfl, rfl⟩ := hrel
        by_cases hlt2 : j < (succs l k).length
        · have ht : (succs l k)[j]? = some ((succs l k)[j]) := List.getElem?_eq_getElem hlt2
          generalize (succs l k)[j] = t at ht
          have htl : t ≤ l.length := hle'.out t (List.mem_of_getElem? ht)
          have htI : (succI l k)[j]? = some (t : Int) := by rw [succI_lt hlt, List.getElem?_map, ht]; rfl
          obtain ⟨b2, off2, y, rfl, _, hy, g2⟩ := hr.at_ (k := j) (by omega)
          rw [htI] at hy
          injection hy with hy
          subst hy
          obtain ⟨b3, off3, y, rfl, _, hy, g3⟩ := hL4.at_ (k := t) (by rw [lvRow_len]; omega)
          rw [lvRow_get (liveFix l) (by omega)] at hy
          injection hy with hy
          subst hy
          have hst := HB16.out t
          have hot := outTo_lt HB16.out l k j
          have HE := Lib.hid (outTo_succ (s := liveFix l) ht)
          have hor := or16 hot hst
          have htn : (t : Int) < ((l.length + 1 : Nat) : Int) := by omega
          have hjI : (j : Int) < ((succs l k).length : Int) := by omega
          clear ht htI k0 k1 k2 k3
          go_wp2
          go_round
          case rel => exact ⟨j + 1, by omega, by go_num, by rw [HE.out]⟩
          case measure => simp [intOf]; omega
        · obtain rfl : j = (succs l k).length := by omega
          have hot := outTo_lt HB16.out l k (succs l k).length
          rw [outTo_all] at hot ⊢
          generalize outSet l (liveFix l) k = o at *
          have hws := wset_lt x
          have han := bits_andNot64 (wset x) o (by omega) (by omega)
          clear g0 hr hL4
          go_wp2_with fail
          refine (written_c x _).mono ?_
          rintro e w5 ⟨rfl, hb5⟩
          have hb6 := below_trans hb4 (Nat.le_refl _) hb5
          have ho6 := OR.below ho4 hb5 (Nat.le_refl _)
          have hs6 := hb6.size
          clear k0 k1 k2 k3 hb5 ho4 hb4
          by_cases hz : mdiff (wset x) o = 0
          · have hD := Lib.hid (show deadN l (k + 1) = deadN l k by rw [HSU.out, HDB.out, hz]; simp)
            rw [hz] at han
            clear hz
            go_wp2
            go_roundw
            case rel => exact ⟨k + 1, A1, c1, by omega, by go_num, by rw [hD.out], by rw [hD.out]; exact ho6, hb6⟩
            case measure => simp [intOf]; omega
          · have hzb : (mdiff (wset x) o == 0) = false := beq_eq_false_iff_ne.2 hz
            have hzi : (((mdiff (wset x) o : Nat) : Int) != 0) = true := by rw [bne_iff_ne]; omega
            have hD := Lib.hid (show deadN l (k + 1) = deadN l k ++ [k] by rw [HSU.out, HDB.out, hzb]; simp)
            have hlen : (deadN l (k + 1)).length = (deadN l k).length + 1 := by rw [hD.out]; simp
            have HO6 := Lib.hid (OR.alloc ho6 (.cells #[.int .i64 k] 3))
            generalize mdiff (wset x) o = md at *
            clear hz hzb
            go_wp2_with (at_builtin; refine app_int rfl _ _ rfl w2.heap.size A1 _ c1 _ HO6.out rfl k w5.heap.size 1 rfl ?hc ?hn ?hb ?_)
            case hc => simp [go_sem]
            case hn => omega
            case hb => first | omega | (simp; omega)
            intro A' c' w7 ho7 hg7
            have hb7 := below_app hb6 hs6 ho6 (Nat.le_refl _) hg7
            go_wp2
            go_roundw
            case rel => exact ⟨k + 1, A', c', by omega, by go_num, by rw [hlen], by rw [hlen]; unfold natL at *; rw [hD.out, List.map_append]; exact ho7, hb7⟩
            case measure => simp [intOf]; omega
    · obtain rfl : k = l.length := by omega
      have hdl : (deadL l).length = (deadN l l.length).length := by simp [deadL]
      go_wp2
      go_ret
      refine ⟨A1, c1, ?_, ?_, below_trans hbW (Nat.le_refl _) hb⟩
      · rw [hdl]; rfl
      · exact .inr (by rw [hdl]; exact OR.mono ho hs2)

theorem dead_any {l : List Cd} {k : Nat} (hk : k < l.length) : (deadL l).any (fun x => x == (k : Int)) = deadB l k := by
  cases hd : deadB l k with
  | true => exact List.any_eq_true.2 ⟨(k : Int), by unfold deadL; exact List.mem_map.2 ⟨k, deadN_mem.2 ⟨hk, hd⟩, rfl⟩, by simp⟩
  | false =>
    rw [List.any_eq_false]
    intro x hx
    unfold deadL at hx
    obtain ⟨j, hj, rfl⟩ := List.mem_map.1 hx
    have := (deadN_mem.1 hj).2
    simp
    intro e
    have e' : j = k := by omega
    rw [e', hd] at this
    cases this

def IDDRel (w : World) (l : List Cd) (xv : Value) (wr : World) : Prop :=
  ∃ (X : List Cd) (A : Option Addr) (c : Nat), xv = .slice A X.length c ∧ RdC wr wr.heap.size A X ∧ (A = none → c = 0) ∧ Below w.heap.size w wr ∧ Hid (pv X = true) ∧ Hid (dropD l = dropD X) ∧ X.length ≤ 40

def IDIRel (wo : World) (X : List Cd) (yv kv : Value) (wr : World) : Prop :=
  ∃ (k : Nat) (A : Option Addr) (c : Nat), k ≤ X.length ∧ kv = .int .i64 k ∧ yv = .slice A (keepN X k).length c ∧ OC wr wo.heap.size A (keepN X k).length c (keepN X k) ∧ Below wo.heap.size wo wr

set_option maxRecDepth 100000 in
set_option maxHeartbeats 8000000 in
theorem idropDead_c (A : Option Addr) (c : Nat) (l : List Cd) (w : World) (hA : RdC w w.heap.size A l) (hp : pv l = true) (hc0 : A = none → c = 0) :
    Calls Tryz.prog 73 #[.slice A l.length c] w (RetC w (dropDeadL l)) := by
  have HP := Lib.hid hp
  have h40 := (pv_iff.1 hp).1
  have HD := Lib.hid (show dropDeadL l = dropD l by simp [dropDeadL, hp, dropD])
  clear hp
  go_enter Tryz.func73, Tryz.ntmps73
  go_wp2
  go_loopw [0] (fun xv wr => IDDRel w l xv wr) (fun xv _ => match xv with | .slice _ n _ => n | _ => 0)
  case atStart => exact ⟨l, A, c, rfl, hA, hc0, Below.refl _ _, HP, Lib.hid rfl, h40⟩
  case round =>
    obtain ⟨X, A1, c1, rfl, hX, hc1, hb, HPX, HDX, hX40⟩ := hrel
    have hs := hb.size
    go_wp2_with fail
    refine (ideadPlaces_c A1 c1 X wr hX HPX.out).mono ?_
    rintro e w3 ⟨A2, c2, rfl, hod, hb3⟩
    have hrD := OwI.rd hod
    have hX3 := (hX.below hb3).more hb3.size
    have hbW3 := below_trans hb (Nat.le_refl _) hb3
    have hdl : (deadL X).length = (deadN X X.length).length := by simp [deadL]
    have hdn := deadN_len X X.length
    clear hod hX
    by_cases hd0 : deadN X X.length = []
    · have hz : (deadL X).length = 0 := by rw [hdl, hd0]; rfl
      have HE := Lib.hid (show dropDeadL l = X by rw [HD.out, HDX.out, dropD_done hd0])
      rw [hz]
      clear hd0 hz hdl hdn
      go_wp2_with fail
      refine (cloneC_c A1 c1 X w3 hX3 (by omega) hc1).mono ?_
      rintro e w4 ⟨A4, c4, rfl, ho4, hb4⟩
      go_wp2
      go_ret
      rw [HE.out]
      exact RetC.mono (RetC.of ho4 hb4) hbW3
    · have hpos : 0 < (deadN X X.length).length := List.length_pos_iff.2 hd0
      have hkl := keep_lt hd0
      have HE := Lib.hid (dropD_more hd0)
      have hdl2 : (deadL X).length ≤ 40 := by omega
      have hdp : 0 < (deadL X).length := by omega
      have HKL := Lib.hid hkl
      have hbeq : ((((deadL X).length : Nat) : Int) == 0) = false := beq_eq_false_iff_ne.2 (by omega)
      clear hd0 hdl hdn hpos hkl
      go_wp2_with fail
      go_loopw [4, 16] (fun yv kv wr => IDIRel w3 X yv kv wr) (fun _ kv _ => X.length - (intOf kv).toNat)
      case atStart => exact ⟨0, none, 0, Nat.zero_le _, rfl, rfl, OC.nil_ _ _, Below.refl _ _⟩
      case round =>
        clear hbeq hdp
        obtain ⟨k, Ay, cy, hk, rfl, rfl, hoy, hby⟩ := hrel
        have hsy := hby.size
        by_cases hlt : k < X.length
        · obtain ⟨b, off, x, rfl, hbB, hx, d0, d1, d2, d3⟩ := (hX3.below hby).at_ hlt
          have hcd := cdAt_get hx
          have HSK := Lib.hid (keepN_succ X k)
          have HCD := Lib.hid hcd
          have HAN := Lib.hid (dead_any hlt)
          have hkn := keepN_len X k
          have hX4 := Ext.alloc wr (.cells #[.int .i64 x.op, .int .i64 x.a, .int .i64 x.b, .int .i64 x.c] 76)
          have hC4 := heap_alloc_new wr (.cells #[.int .i64 x.op, .int .i64 x.a, .int .i64 x.b, .int .i64 x.c] 76)
          have hb4 := hby.alloc hsy (.cells #[.int .i64 x.op, .int .i64 x.a, .int .i64 x.b, .int .i64 x.c] 76)
          have ho4 := OR.ext hoy hX4
          have hr4 := (hrD.below hb4).more hb4.size
          clear hx hcd
          go_wp2_with fail
          generalize wr.alloc (.cells #[.int .i64 x.op, .int .i64 x.a, .int .i64 x.b, .int .i64 x.c] 76) = w4 at *
          generalize wr.heap.size = C at *
          have hs4 := hb4.size
          clear d0 d1 d2 d3 hX4 hoy
          refine (sliceContains_c A2 c2 (deadL X) k w4 hr4 (by omega)).mono ?_
          rintro e w5 ⟨rfl, rfl⟩
          rw [HAN.out]
          have k0 := cell_of_heap hC4 0
          have k1 := cell_of_heap hC4 1
          have k2 := cell_of_heap hC4 2
          have k3 := cell_of_heap hC4 3
          clear hC4 hr4
          cases hb0 : deadB X k with
          | true =>
            have hSK := Lib.hid (show keepN X (k + 1) = keepN X k by rw [HSK.out, hb0]; simp)
            clear hb0
            go_wp2
            go_roundw
            case rel => exact ⟨k + 1, Ay, cy, by omega, by go_num, by rw [hSK.out], by rw [hSK.out]; exact ho4, hb4⟩
            case measure => simp [intOf]; omega
          | false =>
            have HO4 := Lib.hid (OR.alloc ho4 (.cells #[.int .i64 x.op, .int .i64 x.a, .int .i64 x.b, .int .i64 x.c] 76))
            have hSK := Lib.hid (show keepN X (k + 1) = keepN X k ++ [x] by rw [HSK.out, hb0, HCD.out]; rfl)
            have hlen : (keepN X (k + 1)).length = (keepN X k).length + 1 := by rw [hSK.out]; simp
            have hkl1 : (keepN X k).length ≤ 40 := by omega
            clear hb0
            go_wp2_with (at_builtin; refine app_code rfl _ _ rfl w3.heap.size Ay _ cy _ HO4.out rfl x w4.heap.size 1 rfl ?h0 ?h1 ?h2 ?h3 ?hn ?hb ?_)
            first | (case h0 => simp [go_sem]) | skip
            first | (case h1 => simp [go_sem]) | skip
            first | (case h2 => simp [go_sem]) | skip
            first | (case h3 => simp [go_sem]) | skip
            case hn => omega
            case hb => first | omega | (simp; omega)
            intro A' c' w6 ho6 hg6
            have hb6 := below_app hb4 hs4 ho4 (Nat.le_refl _) hg6
            go_wp2
            go_roundw
            case rel => exact ⟨k + 1, A', c', by omega, by go_num, by rw [hlen], by rw [hlen, hSK.out]; exact ho6, hb6⟩
            case measure => simp [intOf]; omega
        · obtain rfl : k = X.length := by omega
          have hkp := Lib.hid (keep_ok HPX.out)
          have hbx := below_trans hbW3 (Nat.le_refl _) hby
          go_wp2
          go_roundw
          case rel => exact ⟨keepN X X.length, Ay, cy, rfl, OC.rd hoy, OC.nilc hoy, hbx, hkp, Lib.hid (by rw [HDX.out, HE.out]), by have := HKL.out; omega⟩
          case measure => simp; exact HKL.out


noncomputable def optL (l : List Cd) : List Cd := packL (dropDeadL (usePicksL l))

theorem usePicksL_ok {l : List Cd} (h : pv l = true) : pv (usePicksL l) = true := by
  unfold usePicksL
  rw [if_pos h]
  exact (tree_picked h).2.2
theorem usePicksL_40 (l : List Cd) : (usePicksL l).length ≤ 40 := by
  cases h : pv l with
  | true => exact (pv_iff.1 (usePicksL_ok h)).1
  | false => simp [usePicksL, h]
theorem optL_len (l : List Cd) : (optL l).length ≤ 40 := by
  have h1 := packL_len (dropDeadL (usePicksL l))
  have h2 := dropDeadL_len (usePicksL l)
  unfold optL
  omega
theorem optL_bad {l : List Cd} (h : pv l = false) : optL l = [] := by
  have h1 : usePicksL l = [] := by simp [usePicksL, h]
  have h2 : dropDeadL [] = [] := List.eq_nil_of_length_eq_zero (by
    unfold dropDeadL
    split
    · rfl
    · rfl)
  have := packL_len []
  unfold optL
  rw [h1, h2]
  exact List.eq_nil_of_length_eq_zero (by simpa using this)

theorem sOptimize_c (A : Option Addr) (c : Nat) (l : List Cd) (w : World) (hA : RdC w w.heap.size A l) (hl : l.length ≤ 1000000000) :
    Calls Tryz.prog 45 #[.slice A l.length c] w (RetC w (optL l)) := by
  have h1 := usePicksL_40 l
  have h2 := dropDeadL_len (usePicksL l)
  go_enter Tryz.func45, Tryz.ntmps45
  go_wp2_with fail
  refine (sUsePicks_c A c l w hA hl).mono ?_
  rintro e w1 ⟨A1, c1, rfl, o1, b1⟩
  go_wp2_with fail
  refine (sDropDead_c A1 c1 _ w1 o1.rd (by omega) o1.nilc).mono ?_
  rintro e w2 ⟨A2, c2, rfl, o2, b2⟩
  go_wp2_with fail
  refine (sPackRegs_c A2 c2 _ w2 o2.rd (by omega)).mono ?_
  intro e w3 h
  obtain ⟨A3, c3, rfl, o3, b3⟩ := h.mono (below_trans b1 (Nat.le_refl _) b2)
  go_wp2
  go_ret
  exact ⟨A3, c3, rfl, o3, b3⟩

theorem iOptimize_c (A : Option Addr) (c : Nat) (l : List Cd) (w : World) (hA : RdC w w.heap.size A l) (hl : l.length ≤ 1000000000) :
    Calls Tryz.prog 42 #[.slice A l.length c] w (RetC w (optL l)) := by
  cases hp : pv l with
  | false =>
    have HO := Lib.hid (optL_bad hp)
    go_enter Tryz.func42, Tryz.ntmps42
    go_wp2_with fail
    refine (iProgramValid_c A c l w hA hl).mono ?_
    rintro e w1 ⟨rfl, hb⟩
    rw [hp]
    go_wp2
    go_ret
    rw [HO.out]
    exact RetC.of (OC.nil_ _ _) hb
  | true =>
    have hu : usePicksL l = picked l := by simp [usePicksL, hp]
    have HO := Lib.hid (show optL l = packL (dropDeadL (picked l)) by rw [optL, hu])
    have h1 := usePicksL_40 l
    rw [hu] at h1
    have h2 := dropDeadL_len (picked l)
    have HP1 := Lib.hid (tree_picked hp).2.2
    have HP2 := Lib.hid (dropDeadL_ok HP1.out)
    clear hu
    go_enter Tryz.func42, Tryz.ntmps42
    go_wp2_with fail
    refine (iProgramValid_c A c l w hA hl).mono ?_
    rintro e w0 ⟨rfl, hb⟩
    rw [hp]
    clear hp
    go_wp2_with fail
    refine (iusePicks_c A c l w0 ((hA.below hb).more hb.size) hl).mono ?_
    rintro e w1 ⟨A1, c1, rfl, o1, b1⟩
    go_wp2_with fail
    refine (idropDead_c A1 c1 _ w1 o1.rd HP1.out o1.nilc).mono ?_
    rintro e w2 ⟨A2, c2, rfl, o2, b2⟩
    go_wp2_with fail
    refine (ipackRegs_c A2 c2 _ w2 o2.rd (by omega) HP2.out).mono ?_
    intro e w3 h
    obtain ⟨A3, c3, rfl, o3, b3⟩ := h.mono (below_trans hb (Nat.le_refl _) (below_trans b1 (Nat.le_refl _) b2))
    go_wp2
    go_ret
    rw [HO.out]
    exact ⟨A3, c3, rfl, o3, b3⟩

end Go.Proofs.YtelbfeidpcojmaaGreat
