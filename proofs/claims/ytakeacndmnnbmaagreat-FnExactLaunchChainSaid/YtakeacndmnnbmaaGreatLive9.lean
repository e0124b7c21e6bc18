/- The program's liveSets (printed by genlive9.py). -/
import Derived.Test.YtakeacndmnnbmaaGreatLive7
import Derived.Test.YtakeacndmnnbmaaGreatLive4
import Derived.Deep.RegionHeld3
namespace Go.Proofs.YtakeacndmnnbmaaGreat
open Go.RowKit
set_option linter.unusedVariables false
set_option linter.unusedSimpArgs false

theorem pow_lt16 {n : Nat} (h : n ≤ 3) : 2 ^ n < 16 := by
  rcases (show n = 0 ∨ n = 1 ∨ n = 2 ∨ n = 3 by omega) with rfl | rfl | rfl | rfl <;> decide

/-- What one place's set is after j successors. -/
def accS (l : List Cd) (s : Nat → Nat) (k S0 ws j : Nat) : Nat := S0 ||| mdiff (outTo l s k j) ws
theorem accS_succ {l : List Cd} {s : Nat → Nat} {k S0 ws j t : Nat} (h : (succs l k)[j]? = some t) : accS l s k S0 ws (j + 1) = accS l s k S0 ws j ||| mdiff (s t) ws := by
  unfold accS
  rw [outTo_succ h, mdiff_or, Nat.or_assoc]
theorem accS_zero (l : List Cd) (s : Nat → Nat) (k S0 ws : Nat) : accS l s k S0 ws 0 = S0 := by
  simp [accS, outTo, mdiff_zero]
theorem accS_all (l : List Cd) (s : Nat → Nat) (k : Nat) : accS l s k (reads (cdAt l k) ||| loopSet l k) (wset (cdAt l k)) (succs l k).length = liveAt l s k := by
  unfold accS liveAt
  rw [outTo_all, Nat.or_comm, Nat.or_assoc]
theorem accS_lt {l : List Cd} {s : Nat → Nat} {k S0 ws : Nat} (hs : ∀ k, s k < 16) (h0 : S0 < 16) (j : Nat) : accS l s k S0 ws j < 16 := Nat.or_lt_two_pow (n := 4) h0 (mdiff_lt (outTo_lt hs l k j))

def ISRel (l : List Cd) (w3 : World) (lb : Nat) (cv : Value) (wr : World) : Prop :=
  ∃ (s : Nat → Nat) (ch : Bool), cv = .bool ch ∧ Hid (LInv l s) ∧ OI wr w3.heap.size (some ⟨lb, 0, none⟩) (l.length + 1) (l.length + 1) (lvRow s (l.length + 1)) ∧ Below w3.heap.size w3 wr ∧ Hid (ch = false → s = liveFix l)

set_option maxRecDepth 100000 in
set_option maxHeartbeats 16000000 in
theorem iliveSets_c (A : Option Addr) (c : Nat) (l : List Cd) (w : World) (hA : RdC w w.heap.size A l) (hp : pv l = true) :
    Calls Tryz.prog 99 #[.slice A l.length c] w (RetI w (lvRow (liveFix l) (l.length + 1))) := by
  have h40 := (pv_iff.1 hp).1
  have HP := Lib.hid hp
  have hmk : ∀ w : World, (Instr.makeSlice 23 (.int .i64 ((l.length : Int) + 1)) (.int .i64 ((l.length : Int) + 1))).run Tryz.prog w = .ok (.slice (some ⟨w.heap.size, 0, none⟩) (l.length + 1) (l.length + 1)) (w.alloc (.cells (zeroRow (.int .i64 0) (l.length + 1)) 3)) := by
    have := make_int (l.length + 1) (by omega)
    simpa using this
  go_enter Tryz.func99, Tryz.ntmps99
  go_wp2_with fail
  refine (iGraphOf_c A c l w hA hp).mono ?_
  rintro e w1 ⟨Ag, cg, rfl, hG, hb1⟩
  replace hG := hG.rd
  have hA1 := (hA.below hb1).more hb1.size
  go_wp2_with fail
  refine (blocks_c A c l w1 hA1 (by omega) (pv_all hp)).mono ?_
  rintro e w2 ⟨hb2, hcase⟩
  rcases hcase with ⟨_, rfl, ga, oth, en, As, cs, hW, hP⟩ | ⟨hp2, _⟩
  case inr => exact absurd (pv_iff.1 HP.out).2 hp2
  have hBK := BK.of hW hP
  have hbW := below_trans hb1 (Nat.le_refl _) hb2
  have hA2 := (hA.below hbW).more hbW.size
  have hG2 := (hG.below hb2).more hb2.size
  have hbsz := hbW.size
  generalize hob : w1.heap.size + 1 = ob at *
  clear hW hP hob hG hA1
  go_wp2_with fail
  have hrow : OI (w2.alloc (.cells (zeroRow (.int .i64 0) (l.length + 1)) 3)) w2.heap.size (some ⟨w2.heap.size, 0, none⟩) (l.length + 1) (l.length + 1) (lvRow (fun _ => 0) (l.length + 1)) := by
    have := OR.lit w2 w2.heap.size 3 1 (l.length + 1) (zeroRow (.int .i64 0) (l.length + 1)) (Nat.le_refl _) (by omega) (by rw [zeroRow_size]; omega)
    have e : (zeroRow (.int .i64 0) (l.length + 1)).toList = (lvRow (fun _ => 0) (l.length + 1)).map (Value.int .i64) := by
      have e2 : lvRow (fun _ => 0) (l.length + 1) = List.replicate (l.length + 1) 0 := by
        apply List.ext_getElem?
        intro j
        by_cases h : j < l.length + 1 <;> simp [lvRow, h]
      rw [e2, List.map_replicate]
      exact toList_madeCells_one _ _
    rw [e] at this
    exact this
  have hbL := (Below.refl w2.heap.size w2).alloc (Nat.le_refl _) (.cells (zeroRow (.int .i64 0) (l.length + 1)) 3)
  generalize w2.alloc (.cells (zeroRow (.int .i64 0) (l.length + 1)) 3) = w3 at *
  obtain ⟨lb, hlb⟩ : ∃ lb, lb = w2.heap.size := ⟨_, rfl⟩
  rw [← hlb]
  conv at hrow => arg 3; rw [← hlb]
  have hlbB : w2.heap.size ≤ lb := by omega
  clear hmk hlb
  go_loopw [8] (fun cv wr => ISRel l w2 lb cv wr) (fun cv wr => 2 * (15 * l.length - cellSum wr lb l.length) + flagN cv)
  case atStart => exact ⟨fun _ => 0, true, rfl, Lib.hid (LInv.start l), hrow, hbL, Lib.hid (fun h => by cases h)⟩
  case round =>
    clear hrow hbL
    obtain ⟨s0, ch, rfl, HI, ho0, hb0, HF⟩ := hrel
    cases ch with
    | false =>
      have HS := Lib.hid (HF.out rfl)
      clear HF
      go_wp2
      go_ret
      rw [← HS.out]
      exact RetI.mono (RetI.of ho0 hb0) hbW
    | true =>
      have hq : IntKind.i64.wrap ((l.length : Int) - 1) = (l.length : Int) - 1 := IntWalk.i64_in _ (by omega)
      obtain ⟨wo, rfl⟩ : ∃ wo, wo = wr := ⟨_, rfl⟩
      go_wp2_with fail
      go_loopw [8, 9] (fun cv kv wr => LMRel l w2 lb s0 cv kv wr) (fun _ kv _ => (intOf kv + 1).toNat)
      case atStart => exact ⟨s0, false, l.length, rfl, Nat.le_refl _, rfl, Lib.hid (Mid.start HI.out), ho0, hb0⟩
      case round =>
        obtain ⟨s, ch, k, rfl, hk, rfl, HM, ho, hb⟩ := hrel
        rcases Nat.eq_zero_or_pos k with rfl | hk0
        · have hd : decide ((((0 : Nat) : Int) - 1) ≥ 0) = false := by simp
          have HO := Lib.hid ho
          have HO0 := Lib.hid ho0
          clear ho ho0 hG2
          go_wp2
          refine ⟨⟨s, ch, rfl, Lib.hid HM.out.1, HO.out, hb, Lib.hid (fun h => by subst h; exact HM.out.done)⟩, ?_⟩
          have e1 := cellSum_eq HO.out l.length (by omega)
          have e0 := cellSum_eq HO0.out l.length (by omega)
          rw [e1, e0]
          have hle := sumN_le HM.out.1.b16 l.length
          cases ch with
          | true => have := HM.out.2.2 rfl; simp only [flagN]; omega
          | false => have := (HM.out.2.1 rfl).1; rw [this]; simp only [flagN]; omega
        · obtain ⟨kk, rfl⟩ : ∃ kk, k = kk + 1 := ⟨k - 1, by omega⟩
          have hkv : (((kk + 1 : Nat) : Int) - 1) = (kk : Int) := by omega
          rw [hkv]
          have hklt : kk < l.length := by omega
          have hsz := hb.size
          have hx := cdAt_get' hklt
          have hvx := pv_all hp _ (List.mem_of_getElem? hx)
          have HACC := Lib.hid (accS_all l s kk)
          have hrd := reads_lt (cdAt l kk)
          have hws := wset_lt (cdAt l kk)
          have HB16 := Lib.hid HM.out.1.b16
          generalize hcd : cdAt l kk = x at hx hvx HACC hrd hws
          have HCD := Lib.hid hcd
          obtain ⟨b, off, y, rfl, hbB, hy, d0, d1, d2, d3⟩ := (hA2.below hb).at_ hklt
          rw [hx] at hy
          injection hy with hy
          subst hy
          have HX := Lib.hid hx
          have HVX := Lib.hid hvx
          have hX4 := Ext.alloc wr (.cells #[.int .i64 x.op, .int .i64 x.a, .int .i64 x.b, .int .i64 x.c] 57)
          have hC4 := heap_alloc_new wr (.cells #[.int .i64 x.op, .int .i64 x.a, .int .i64 x.b, .int .i64 x.c] 57)
          have HX4 := Lib.hid hX4
          have HC4 := Lib.hid hC4
          clear hx hvx hcd hX4 hC4
          go_wp2_with fail
          refine (iCodeReads_c x _).mono ?_
          rintro e w5 ⟨rfl, hb5⟩
          have hX5 := HX4.out.trans (Ext.of_below hb5)
          have hC5 := (Ext.of_below hb5).heap_ HC4.out
          have ho5 := OR.ext ho hX5
          have hbW5 : Below w2.heap.size w2 w5 := hb.trans ((hX5.below).mono hsz)
          have hs5 := hbW5.size
          have hcl : wr.heap.size < w5.heap.size := lt_of_block hC5
          generalize wr.heap.size = C at *
          have c0 := cell_of_heap hC5 0
          have HC5 := Lib.hid hC5
          clear d0 d1 d2 d3 hb5 hX5 hC5 ho
          cases e14 : x.op == 14 with
          | false =>
            have HL0 := Lib.hid (show loopSet l kk = 0 from loopSet_no (.inl (by rw [← cdAt_op, HCD.out]; exact beq_eq_false_iff_ne.1 e14)))
            have HS0 := Lib.hid (show reads x ||| loopSet l kk = reads x by rw [HL0.out, Nat.or_zero])
            obtain ⟨S0, hSE⟩ : ∃ S0 : Nat, S0 = reads x := ⟨_, rfl⟩
            have hS0 : S0 < 16 := by rw [hSE]; exact hrd
            have HSE := Lib.hid hSE
            clear hSE
            obtain ⟨gb, goff, A', c', rfl, hgB, g0, hr⟩ := (hG2.below hbW5).at_ (k := kk) (by omega)
            have hsl : (succI l kk).length = (succs l kk).length := by rw [succI_lt hklt, List.length_map]
            rw [hsl] at g0
            have hle' := Lib.hid (succs_le HP.out hklt)
            have htwo := succs_two l kk
            have hHC := HC5
            have hkI : (kk : Int) < ((l.length + 1 : Nat) : Int) := by omega
            go_wp2_with fail
            clear c0
            obtain ⟨wi, rfl⟩ : ∃ wi, wi = w5 := ⟨_, rfl⟩
            go_loopw [11, 64] (fun sv jv wr => ∃ j : Nat, j ≤ (succs l kk).length ∧ jv = .int .i64 j ∧ sv = .int .i64 (accS l s kk S0 (wset x) j : Nat) ∧ Below wi.heap.size wi wr) (fun _ j _ => (succs l kk).length - (intOf j).toNat)
            case atStart => exact ⟨0, Nat.zero_le _, rfl, by first | (rw [accS_zero, HSE.out]; done) | (rw [accS_zero, HSE.out]; rfl) | (rw [accS_zero, HSE.out, hsh]), Below.refl _ _⟩
            case round =>
              (try clear hsh); (try clear v0 v1); (try clear o0 p0)
              obtain ⟨j, hj, rfl, rfl, hbj⟩ := hrel
              have hsj := hbj.size
              have hoj : OI wr w2.heap.size (some ⟨lb, 0, none⟩) (l.length + 1) (l.length + 1) (lvRow s (l.length + 1)) := OR.below ho5 hbj (Nat.le_refl _)
              have hbWj := below_trans hbW5 (Nat.le_refl _) hbj
              by_cases hlt : j < (succs l kk).length
              · have ht : (succs l kk)[j]? = some ((succs l kk)[j]) := List.getElem?_eq_getElem hlt
                generalize (succs l kk)[j] = t at ht
                have htl : t ≤ l.length := hle'.out t (List.mem_of_getElem? ht)
                have htI : (succI l kk)[j]? = some (t : Int) := by rw [succI_lt hklt, List.getElem?_map, ht]; rfl
                obtain ⟨b2, off2, y, rfl, hb2B, hy, g2⟩ := (hr.below (hbj.mono hbW5.size)).at_ (k := j) (by omega)
                rw [htI] at hy
                injection hy with hy
                subst hy
                have cS := (OI.at0 hoj).1 t _ (lvRow_get s (show t < l.length + 1 by omega))
                have cC := (Ext.of_below hbj).heap_ hHC.out
                have k0 := cell_of_heap cC 0
                have k1 := cell_of_heap cC 1
                have k2 := cell_of_heap cC 2
                have k3 := cell_of_heap cC 3
                have hst := HB16.out t
                have hau := accS_lt HB16.out hS0 (ws := wset x) (l := l) (k := kk) j
                have HE := Lib.hid (accS_succ (s := s) (S0 := S0) (ws := wset x) ht)
                have hmd := mdiff_lt (w := wset x) hst
                have hor := or16 hau hmd
                have han := bits_andNot64 (s t) (wset x) (by omega) (by omega)
                have htn : (t : Int) < ((l.length + 1 : Nat) : Int) := by omega
                have htn2 : (t : Int) < (l.length : Int) + 1 := by omega
                have hjI : (j : Int) < ((succs l kk).length : Int) := by omega
                have hww : Below wi.heap.size wi wr.drew := Below.drew hbj
                generalize accS l s kk S0 (wset x) j = u at *
                generalize s t = st at *
                clear ht htI hoj cC
                go_wp2_with fail
                go_region_held3 (fun w' => w'.cell? ⟨lb, t, none⟩ = some (.int .i64 st) ∧ w'.cell? ⟨C, 0, none⟩ = some (.int .i64 x.op) ∧ w'.cell? ⟨C, 1, none⟩ = some (.int .i64 x.a) ∧ w'.cell? ⟨C, 2, none⟩ = some (.int .i64 x.b) ∧ w'.cell? ⟨C, 3, none⟩ = some (.int .i64 x.c) ∧ Below wi.heap.size wi w')
                  (first
                    | (go_split_ands
                       exact ⟨cell_kept hbz (by assumption), cell_kept hbz (by assumption), cell_kept hbz (by assumption), cell_kept hbz (by assumption), cell_kept hbz (by assumption), below_trans (by assumption) (Nat.le_refl _) hbz⟩)
                    | (exact ⟨cS, k0, k1, k2, k3, hww⟩)
                    | fail)
                  (first | (go_at_call 97; refine (written_c x _).mono ?_; rintro e wz ⟨rfl, hbz⟩))
                all_goals (
                  rename_i hh
                  obtain ⟨-, -, -, -, -, hbz2⟩ := hh
                  clear cS k0 k1 k2 k3 g2
                  go_wp2
                  first
                    | (refine ⟨⟨j + 1, by omega, by go_num, by rw [HE.out], hbz2⟩, ?_⟩; simp [intOf]; omega)
                    | (go_roundw
                       case rel => exact ⟨j + 1, by omega, by go_num, by rw [HE.out], hbz2⟩
                       case measure => simp [intOf]; omega))
              · obtain rfl : j = (succs l kk).length := by omega
                have HLV2 := Lib.hid (show accS l s kk S0 (wset x) (succs l kk).length = liveAt l s kk from by rw [HSE.out, ← HS0.out]; exact HACC.out)
                have HSET := Lib.hid (show OI (wr.setCell ⟨lb, kk, none⟩ (.int .i64 (liveAt l s kk))) w2.heap.size (some ⟨lb, 0, none⟩) (l.length + 1) (l.length + 1) (lvRow (upd s kk (liveAt l s kk)) (l.length + 1)) by
                  have := (OI.at0 hoj).2.2 kk (liveAt l s kk : Int)
                  rwa [lvRow_set] at this)
                have f1 := (OI.at0 hoj).2.1 kk
                have cS := (OI.at0 hoj).1 kk _ (lvRow_get s (show kk < l.length + 1 by omega))
                have HMS := Lib.hid (show Mid l s0 (upd s kk (liveAt l s kk)) kk (ch || !((liveAt l s kk : Int) == (s kk : Int))) from HM.out.step HP.out (show kk < l.length by omega))
                rw [HLV2.out]
                have HBJ := Lib.hid hbWj
                generalize (s kk : Int) = sk at *
                generalize liveAt l s kk = nv at *
                clear hoj HACC HLV2 g0
                cases ch with
                | true =>
                  go_wp2
                  go_roundw
                  case rel => exact ⟨upd s kk nv, true, kk, rfl, by omega, by go_num, Lib.hid (by simpa using HMS.out), HSET.out, HBJ.out.setCell hlbB _⟩
                  case measure => simp [intOf]
                | false =>
                  go_wp2
                  go_roundw
                  case rel => exact ⟨upd s kk nv, ((nv : Int) != sk), kk, rfl, by omega, by go_num, Lib.hid (by simpa [bne] using HMS.out), HSET.out, HBJ.out.setCell hlbB _⟩
                  case measure => simp [intOf]
          | true =>
            have h14 : x.op = 14 := beq_iff_eq.1 e14
            obtain ⟨a1, a2, a3⟩ := around_in hp HX.out (.inr h14)
            have hr0 : reads x = 0 := by simp [reads, h14]
            have HR0 := Lib.hid (show loopSet l kk = if opAt l (aroundN l kk) == 13 then 2 ^ (cdAt l (aroundN l kk)).a.toNat else 0 by simp [loopSet, ← cdAt_op l kk, HCD.out, h14])
            have hBK5 := hBK.below ((Ext.of_below (hbW5.mono (Nat.le_refl _))).below)
            have o0 := (OR.at0 hBK5.own).1 kk _ (ownRow_shut (ga := ga) HX.out (.inr h14))
            generalize aroundN l kk = r at a1 a2 a3 HR0 o0
            have hrl : r < l.length := by omega
            have hb0' := hBK5.bks r hrl a3
            have p0 : w5.cell? ⟨ga r, 0, none⟩ = some (.int .i64 r) := cell_of_heap hb0' 0
            have hxr := cdAt_get' hrl
            have hopr := cdAt_op l r
            have hvr := cvOk_a (pv_all hp _ (List.mem_of_getElem? hxr))
            generalize cdAt l r = y at hxr hopr a3 hvr HR0
            obtain ⟨b2, off2, y2, e2, -, hy2, u0, u1, u2, u3⟩ := (hA2.below hbW5).at_ hrl
            injection e2 with e2
            injection e2 with e2 e3
            subst e2 e3
            rw [hxr] at hy2
            injection hy2 with hy2
            subst hy2
            rw [← hopr] at HR0
            have hrI : (r : Int) < (l.length : Int) := by omega
            have hkI : (kk : Int) < (l.length : Int) := by omega
            have hX6 := Ext.alloc w5 (.cells #[.int .i64 y.op, .int .i64 y.a, .int .i64 y.b, .int .i64 y.c] 57)
            have hN6 := heap_alloc_new w5 (.cells #[.int .i64 y.op, .int .i64 y.a, .int .i64 y.b, .int .i64 y.c] 57)
            have ho6 := OR.ext ho5 hX6
            have hbW6 : Below w2.heap.size w2 (w5.alloc (.cells #[.int .i64 y.op, .int .i64 y.a, .int .i64 y.b, .int .i64 y.c] 57)) := hbW5.alloc hs5 _
            have HC6 := Lib.hid (hX6.heap_ HC5.out)
            rw [hr0]
            clear hxr hopr h14 hb0' hBK5 hX6 a1
            go_upto_region 14 with (fail)
            generalize w5.alloc (.cells #[.int .i64 y.op, .int .i64 y.a, .int .i64 y.b, .int .i64 y.c] 57) = w6 at *
            have v0 := cell_of_heap hN6 0
            have v1 := cell_of_heap hN6 1
            have hbw6 := hbW6
            have how6 := ho6
            have HCw6 := HC6
            clear o0 p0 u0 u1 u2 u3 hN6 ho5
            cases ey : y.op == 13 with
            | false =>
              have HS0 := Lib.hid (show reads x ||| loopSet l kk = 0 by rw [hr0, HR0.out, ey]; simp)
              clear v1
              obtain ⟨S0, hSE⟩ : ∃ S0 : Nat, S0 = (0 : Nat) := ⟨_, rfl⟩
              have hS0 : S0 < 16 := by rw [hSE]; exact (by omega)
              have HSE := Lib.hid hSE
              clear hSE
              obtain ⟨gb, goff, A', c', rfl, hgB, g0, hr⟩ := (hG2.below hbw6).at_ (k := kk) (by omega)
              have hsl : (succI l kk).length = (succs l kk).length := by rw [succI_lt hklt, List.length_map]
              rw [hsl] at g0
              have hle' := Lib.hid (succs_le HP.out hklt)
              have htwo := succs_two l kk
              have hHC := HCw6
              have hkI : (kk : Int) < ((l.length + 1 : Nat) : Int) := by omega
              go_wp2_with fail
              clear c0
              obtain ⟨wi, rfl⟩ : ∃ wi, wi = w6 := ⟨_, rfl⟩
              go_loopw [11, 64] (fun sv jv wr => ∃ j : Nat, j ≤ (succs l kk).length ∧ jv = .int .i64 j ∧ sv = .int .i64 (accS l s kk S0 (wset x) j : Nat) ∧ Below wi.heap.size wi wr) (fun _ j _ => (succs l kk).length - (intOf j).toNat)
              case atStart => exact ⟨0, Nat.zero_le _, rfl, by first | (rw [accS_zero, HSE.out]; done) | (rw [accS_zero, HSE.out]; rfl) | (rw [accS_zero, HSE.out, hsh]), Below.refl _ _⟩
              case round =>
                (try clear hsh); (try clear v0 v1); (try clear o0 p0)
                obtain ⟨j, hj, rfl, rfl, hbj⟩ := hrel
                have hsj := hbj.size
                have hoj : OI wr w2.heap.size (some ⟨lb, 0, none⟩) (l.length + 1) (l.length + 1) (lvRow s (l.length + 1)) := OR.below how6 hbj (Nat.le_refl _)
                have hbWj := below_trans hbw6 (Nat.le_refl _) hbj
                by_cases hlt : j < (succs l kk).length
                · have ht : (succs l kk)[j]? = some ((succs l kk)[j]) := List.getElem?_eq_getElem hlt
                  generalize (succs l kk)[j] = t at ht
                  have htl : t ≤ l.length := hle'.out t (List.mem_of_getElem? ht)
                  have htI : (succI l kk)[j]? = some (t : Int) := by rw [succI_lt hklt, List.getElem?_map, ht]; rfl
                  obtain ⟨b2, off2, y, rfl, hb2B, hy, g2⟩ := (hr.below (hbj.mono hbw6.size)).at_ (k := j) (by omega)
                  rw [htI] at hy
                  injection hy with hy
                  subst hy
                  have cS := (OI.at0 hoj).1 t _ (lvRow_get s (show t < l.length + 1 by omega))
                  have cC := (Ext.of_below hbj).heap_ hHC.out
                  have k0 := cell_of_heap cC 0
                  have k1 := cell_of_heap cC 1
                  have k2 := cell_of_heap cC 2
                  have k3 := cell_of_heap cC 3
                  have hst := HB16.out t
                  have hau := accS_lt HB16.out hS0 (ws := wset x) (l := l) (k := kk) j
                  have HE := Lib.hid (accS_succ (s := s) (S0 := S0) (ws := wset x) ht)
                  have hmd := mdiff_lt (w := wset x) hst
                  have hor := or16 hau hmd
                  have han := bits_andNot64 (s t) (wset x) (by omega) (by omega)
                  have htn : (t : Int) < ((l.length + 1 : Nat) : Int) := by omega
                  have htn2 : (t : Int) < (l.length : Int) + 1 := by omega
                  have hjI : (j : Int) < ((succs l kk).length : Int) := by omega
                  have hww : Below wi.heap.size wi wr.drew := Below.drew hbj
                  generalize accS l s kk S0 (wset x) j = u at *
                  generalize s t = st at *
                  clear ht htI hoj cC
                  go_wp2_with fail
                  go_region_held3 (fun w' => w'.cell? ⟨lb, t, none⟩ = some (.int .i64 st) ∧ w'.cell? ⟨C, 0, none⟩ = some (.int .i64 x.op) ∧ w'.cell? ⟨C, 1, none⟩ = some (.int .i64 x.a) ∧ w'.cell? ⟨C, 2, none⟩ = some (.int .i64 x.b) ∧ w'.cell? ⟨C, 3, none⟩ = some (.int .i64 x.c) ∧ Below wi.heap.size wi w')
                    (first
                      | (go_split_ands
                         exact ⟨cell_kept hbz (by assumption), cell_kept hbz (by assumption), cell_kept hbz (by assumption), cell_kept hbz (by assumption), cell_kept hbz (by assumption), below_trans (by assumption) (Nat.le_refl _) hbz⟩)
                      | (exact ⟨cS, k0, k1, k2, k3, hww⟩)
                      | fail)
                    (first | (go_at_call 97; refine (written_c x _).mono ?_; rintro e wz ⟨rfl, hbz⟩))
                  all_goals (
                    rename_i hh
                    obtain ⟨-, -, -, -, -, hbz2⟩ := hh
                    clear cS k0 k1 k2 k3 g2
                    go_wp2
                    first
                      | (refine ⟨⟨j + 1, by omega, by go_num, by rw [HE.out], hbz2⟩, ?_⟩; simp [intOf]; omega)
                      | (go_roundw
                         case rel => exact ⟨j + 1, by omega, by go_num, by rw [HE.out], hbz2⟩
                         case measure => simp [intOf]; omega))
                · obtain rfl : j = (succs l kk).length := by omega
                  have HLV2 := Lib.hid (show accS l s kk S0 (wset x) (succs l kk).length = liveAt l s kk from by rw [HSE.out, ← HS0.out]; exact HACC.out)
                  have HSET := Lib.hid (show OI (wr.setCell ⟨lb, kk, none⟩ (.int .i64 (liveAt l s kk))) w2.heap.size (some ⟨lb, 0, none⟩) (l.length + 1) (l.length + 1) (lvRow (upd s kk (liveAt l s kk)) (l.length + 1)) by
                    have := (OI.at0 hoj).2.2 kk (liveAt l s kk : Int)
                    rwa [lvRow_set] at this)
                  have f1 := (OI.at0 hoj).2.1 kk
                  have cS := (OI.at0 hoj).1 kk _ (lvRow_get s (show kk < l.length + 1 by omega))
                  have HMS := Lib.hid (show Mid l s0 (upd s kk (liveAt l s kk)) kk (ch || !((liveAt l s kk : Int) == (s kk : Int))) from HM.out.step HP.out (show kk < l.length by omega))
                  rw [HLV2.out]
                  have HBJ := Lib.hid hbWj
                  generalize (s kk : Int) = sk at *
                  generalize liveAt l s kk = nv at *
                  clear hoj HACC HLV2 g0
                  cases ch with
                  | true =>
                    go_wp2
                    go_roundw
                    case rel => exact ⟨upd s kk nv, true, kk, rfl, by omega, by go_num, Lib.hid (by simpa using HMS.out), HSET.out, HBJ.out.setCell hlbB _⟩
                    case measure => simp [intOf]
                  | false =>
                    go_wp2
                    go_roundw
                    case rel => exact ⟨upd s kk nv, ((nv : Int) != sk), kk, rfl, by omega, by go_num, Lib.hid (by simpa [bne] using HMS.out), HSET.out, HBJ.out.setCell hlbB _⟩
                    case measure => simp [intOf]
            | true =>
              obtain ⟨ya, hya⟩ := Int.eq_ofNat_of_zero_le hvr.1
              have hya3 : ya ≤ 3 := by omega
              obtain ⟨P, hPe⟩ : ∃ P : Nat, P = 2 ^ ya := ⟨_, rfl⟩
              have HS0 := Lib.hid (show reads x ||| loopSet l kk = P by rw [hPe, hr0, HR0.out, ey, hya, Nat.zero_or]; rfl)
              rw [hya] at v1
              have hsh : wrap64 (2 ^ ya) = (P : Int) := by rw [hPe]; exact shl4 hya3
              have hp8 : P < 16 := by rw [hPe]; exact pow_lt16 hya3
              clear hya hPe
              obtain ⟨S0, hSE⟩ : ∃ S0 : Nat, S0 = P := ⟨_, rfl⟩
              have hS0 : S0 < 16 := by rw [hSE]; exact hp8
              have HSE := Lib.hid hSE
              clear hSE
              obtain ⟨gb, goff, A', c', rfl, hgB, g0, hr⟩ := (hG2.below hbw6).at_ (k := kk) (by omega)
              have hsl : (succI l kk).length = (succs l kk).length := by rw [succI_lt hklt, List.length_map]
              rw [hsl] at g0
              have hle' := Lib.hid (succs_le HP.out hklt)
              have htwo := succs_two l kk
              have hHC := HCw6
              have hkI : (kk : Int) < ((l.length + 1 : Nat) : Int) := by omega
              go_wp2_with fail
              clear c0
              obtain ⟨wi, rfl⟩ : ∃ wi, wi = w6 := ⟨_, rfl⟩
              go_loopw [11, 64] (fun sv jv wr => ∃ j : Nat, j ≤ (succs l kk).length ∧ jv = .int .i64 j ∧ sv = .int .i64 (accS l s kk S0 (wset x) j : Nat) ∧ Below wi.heap.size wi wr) (fun _ j _ => (succs l kk).length - (intOf j).toNat)
              case atStart => exact ⟨0, Nat.zero_le _, rfl, by first | (rw [accS_zero, HSE.out]; done) | (rw [accS_zero, HSE.out]; rfl) | (rw [accS_zero, HSE.out, hsh]), Below.refl _ _⟩
              case round =>
                (try clear hsh); (try clear v0 v1); (try clear o0 p0)
                obtain ⟨j, hj, rfl, rfl, hbj⟩ := hrel
                have hsj := hbj.size
                have hoj : OI wr w2.heap.size (some ⟨lb, 0, none⟩) (l.length + 1) (l.length + 1) (lvRow s (l.length + 1)) := OR.below how6 hbj (Nat.le_refl _)
                have hbWj := below_trans hbw6 (Nat.le_refl _) hbj
                by_cases hlt : j < (succs l kk).length
                · have ht : (succs l kk)[j]? = some ((succs l kk)[j]) := List.getElem?_eq_getElem hlt
                  generalize (succs l kk)[j] = t at ht
                  have htl : t ≤ l.length := hle'.out t (List.mem_of_getElem? ht)
                  have htI : (succI l kk)[j]? = some (t : Int) := by rw [succI_lt hklt, List.getElem?_map, ht]; rfl
                  obtain ⟨b2, off2, y, rfl, hb2B, hy, g2⟩ := (hr.below (hbj.mono hbw6.size)).at_ (k := j) (by omega)
                  rw [htI] at hy
                  injection hy with hy
                  subst hy
                  have cS := (OI.at0 hoj).1 t _ (lvRow_get s (show t < l.length + 1 by omega))
                  have cC := (Ext.of_below hbj).heap_ hHC.out
                  have k0 := cell_of_heap cC 0
                  have k1 := cell_of_heap cC 1
                  have k2 := cell_of_heap cC 2
                  have k3 := cell_of_heap cC 3
                  have hst := HB16.out t
                  have hau := accS_lt HB16.out hS0 (ws := wset x) (l := l) (k := kk) j
                  have HE := Lib.hid (accS_succ (s := s) (S0 := S0) (ws := wset x) ht)
                  have hmd := mdiff_lt (w := wset x) hst
                  have hor := or16 hau hmd
                  have han := bits_andNot64 (s t) (wset x) (by omega) (by omega)
                  have htn : (t : Int) < ((l.length + 1 : Nat) : Int) := by omega
                  have htn2 : (t : Int) < (l.length : Int) + 1 := by omega
                  have hjI : (j : Int) < ((succs l kk).length : Int) := by omega
                  have hww : Below wi.heap.size wi wr.drew := Below.drew hbj
                  generalize accS l s kk S0 (wset x) j = u at *
                  generalize s t = st at *
                  clear ht htI hoj cC
                  go_wp2_with fail
                  go_region_held3 (fun w' => w'.cell? ⟨lb, t, none⟩ = some (.int .i64 st) ∧ w'.cell? ⟨C, 0, none⟩ = some (.int .i64 x.op) ∧ w'.cell? ⟨C, 1, none⟩ = some (.int .i64 x.a) ∧ w'.cell? ⟨C, 2, none⟩ = some (.int .i64 x.b) ∧ w'.cell? ⟨C, 3, none⟩ = some (.int .i64 x.c) ∧ Below wi.heap.size wi w')
                    (first
                      | (go_split_ands
                         exact ⟨cell_kept hbz (by assumption), cell_kept hbz (by assumption), cell_kept hbz (by assumption), cell_kept hbz (by assumption), cell_kept hbz (by assumption), below_trans (by assumption) (Nat.le_refl _) hbz⟩)
                      | (exact ⟨cS, k0, k1, k2, k3, hww⟩)
                      | fail)
                    (first | (go_at_call 97; refine (written_c x _).mono ?_; rintro e wz ⟨rfl, hbz⟩))
                  all_goals (
                    rename_i hh
                    obtain ⟨-, -, -, -, -, hbz2⟩ := hh
                    clear cS k0 k1 k2 k3 g2
                    go_wp2
                    first
                      | (refine ⟨⟨j + 1, by omega, by go_num, by rw [HE.out], hbz2⟩, ?_⟩; simp [intOf]; omega)
                      | (go_roundw
                         case rel => exact ⟨j + 1, by omega, by go_num, by rw [HE.out], hbz2⟩
                         case measure => simp [intOf]; omega))
                · obtain rfl : j = (succs l kk).length := by omega
                  have HLV2 := Lib.hid (show accS l s kk S0 (wset x) (succs l kk).length = liveAt l s kk from by rw [HSE.out, ← HS0.out]; exact HACC.out)
                  have HSET := Lib.hid (show OI (wr.setCell ⟨lb, kk, none⟩ (.int .i64 (liveAt l s kk))) w2.heap.size (some ⟨lb, 0, none⟩) (l.length + 1) (l.length + 1) (lvRow (upd s kk (liveAt l s kk)) (l.length + 1)) by
                    have := (OI.at0 hoj).2.2 kk (liveAt l s kk : Int)
                    rwa [lvRow_set] at this)
                  have f1 := (OI.at0 hoj).2.1 kk
                  have cS := (OI.at0 hoj).1 kk _ (lvRow_get s (show kk < l.length + 1 by omega))
                  have HMS := Lib.hid (show Mid l s0 (upd s kk (liveAt l s kk)) kk (ch || !((liveAt l s kk : Int) == (s kk : Int))) from HM.out.step HP.out (show kk < l.length by omega))
                  rw [HLV2.out]
                  have HBJ := Lib.hid hbWj
                  generalize (s kk : Int) = sk at *
                  generalize liveAt l s kk = nv at *
                  clear hoj HACC HLV2 g0
                  cases ch with
                  | true =>
                    go_wp2
                    go_roundw
                    case rel => exact ⟨upd s kk nv, true, kk, rfl, by omega, by go_num, Lib.hid (by simpa using HMS.out), HSET.out, HBJ.out.setCell hlbB _⟩
                    case measure => simp [intOf]
                  | false =>
                    go_wp2
                    go_roundw
                    case rel => exact ⟨upd s kk nv, ((nv : Int) != sk), kk, rfl, by omega, by go_num, Lib.hid (by simpa [bne] using HMS.out), HSET.out, HBJ.out.setCell hlbB _⟩
                    case measure => simp [intOf]
end Go.Proofs.YtakeacndmnnbmaaGreat
