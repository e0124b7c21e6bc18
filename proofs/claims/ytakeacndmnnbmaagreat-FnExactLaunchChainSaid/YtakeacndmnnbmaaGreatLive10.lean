/- The program's deadPlaces, dropDead. -/
import Derived.Test.YtakeacndmnnbmaaGreatLive9
import Derived.Test.YtakeacndmnnbmaaGreatLive5
import Derived.Test.YtakeacndmnnbmaaGreatSlices
import Derived.Test.YtakeacndmnnbmaaGreatBlocks0
namespace Go.Proofs.YtakeacndmnnbmaaGreat
open Go.RowKit
set_option linter.unusedVariables false
set_option linter.unusedSimpArgs false

def IDRel (w2 : World) (l : List Cd) (ov kv : Value) (wr : World) : Prop :=
  ∃ (k : Nat) (A : Option Addr) (c : Nat), k ≤ l.length ∧ kv = .int .i64 k ∧ ov = .slice A (deadN l k).length c ∧ OI wr w2.heap.size A (deadN l k).length c (natL (deadN l k)) ∧ Below w2.heap.size w2 wr

set_option maxRecDepth 100000 in
set_option maxHeartbeats 8000000 in
theorem ideadPlaces_c (A : Option Addr) (c : Nat) (l : List Cd) (w : World) (hA : RdC w w.heap.size A l) (hp : pv l = true) :
    Calls Tryz.prog 68 #[.slice A l.length c] w (RetI w (deadL l)) := by
  have h40 := (pv_iff.1 hp).1
  have HP := Lib.hid hp
  have HFX := Lib.hid (fix_is hp)
  go_enter Tryz.func68, Tryz.ntmps68
  go_wp2_with fail
  refine (iGraphOf_c A c l w hA HP.out).mono ?_
  rintro e w1 ⟨Ag, cg, rfl, hG, hb1⟩
  replace hG := hG.rd
  go_wp2_with fail
  refine (iliveSets_c A c l w1 ((hA.below hb1).more hb1.size) HP.out).mono ?_
  rintro e w2 ⟨AL, cL, rfl, hoL, hb2⟩
  rw [lvRow_len]
  have hL := OwI.rd hoL
  have hbW := below_trans hb1 (Nat.le_refl _) hb2
  have hG2 := (hG.below hb2).more hb2.size
  have hA2 := (hA.below hbW).more hbW.size
  have hs2 := hbW.size
  clear hG hoL hb1 hb2
  go_wp2
  go_loopw [5, 17] (fun ov kv wr => IDRel w2 l ov kv wr) (fun _ kv _ => l.length - (intOf kv).toNat)
  case atStart => exact ⟨0, none, 0, Nat.zero_le _, rfl, rfl, OI.nil_ _ _, Below.refl _ _⟩
  case round =>
    obtain ⟨k, A1, c1, hk, rfl, rfl, ho, hb⟩ := hrel
    have hs := hb.size
    by_cases hlt : k < l.length
    · obtain ⟨b, off, x, rfl, hbB, hx, d0, d1, d2, d3⟩ := (hA2.below hb).at_ hlt
      have hcd := cdAt_get hx
      have HSU := Lib.hid (deadN_succ l k)
      have HDB := Lib.hid (show deadB l k = !(mdiff (wset x) (outSet l (liveFix l) k) == 0) by unfold deadB; rw [hcd])
      have hdl := deadN_len l k
      have hX4 := Ext.alloc wr (.cells #[.int .i64 x.op, .int .i64 x.a, .int .i64 x.b, .int .i64 x.c] 57)
      have hC4 := heap_alloc_new wr (.cells #[.int .i64 x.op, .int .i64 x.a, .int .i64 x.b, .int .i64 x.c] 57)
      have hb4 := hb.alloc hs (.cells #[.int .i64 x.op, .int .i64 x.a, .int .i64 x.b, .int .i64 x.c] 57)
      have ho4 := OR.ext ho hX4
      obtain ⟨gb, goff, A', c', rfl, hgB, g0, hr⟩ := (hG2.below hb4).at_ (k := k) (by omega)
      have hsl : (succI l k).length = (succs l k).length := by rw [succI_lt hlt, List.length_map]
      rw [hsl] at g0
      have hle' := Lib.hid (succs_le HP.out hlt)
      have htwo := succs_two l k
      have hkI : (k : Int) < ((l.length + 1 : Nat) : Int) := by omega
      have hL4 := hL.below hb4
      have HB16 := Lib.hid HFX.out.1.b16
      clear hx hcd
      go_wp2_with fail
      generalize wr.alloc (.cells #[.int .i64 x.op, .int .i64 x.a, .int .i64 x.b, .int .i64 x.c] 57) = w4 at *
      generalize wr.heap.size = C at *
      have k0 := cell_of_heap hC4 0
      have k1 := cell_of_heap hC4 1
      have k2 := cell_of_heap hC4 2
      have k3 := cell_of_heap hC4 3
      have hs4 := hb4.size
      clear d0 d1 d2 d3 hC4 hX4 ho
      go_loop [8, 27] (fun uv jv => ∃ j : Nat, j ≤ (succs l k).length ∧ jv = .int .i64 j ∧ uv = .int .i64 (outTo l (liveFix l) k j : Nat)) (fun _ j => (succs l k).length - (intOf j).toNat)
      case atStart => exact ⟨0, Nat.zero_le _, rfl, rfl⟩
      case round =>
        obtain ⟨j, hj, rfl, rfl⟩ := hrel
        by_cases hlt2 : j < (succs l k).length
        · have ht : (succs l k)[j]? = some ((succs l k)[j]) := List.getElem?_eq_getElem hlt2
          generalize (succs l k)[j] = t at ht
          have htl : t ≤ l.length := hle'.out t (List.mem_of_getElem? ht)
          have htI : (succI l k)[j]? = some (t : Int) := by rw [succI_lt hlt, List.getElem?_map, ht]; rfl
          obtain ⟨b2, off2, y, rfl, _, hy, g2⟩ := hr.at_ (k := j) (by omega)
          rw [htI] at hy
          injection hy with hy
          subst hy
          obtain ⟨b3, off3, y, rfl, _, hy, g3⟩ := hL4.at_ (k := t) (by rw [lvRow_len]; omega)
          rw [lvRow_get (liveFix l) (by omega)] at hy
          injection hy with hy
          subst hy
          have hst := HB16.out t
          have hot := outTo_lt HB16.out l k j
          have HE := Lib.hid (outTo_succ (s := liveFix l) ht)
          have hor := or16 hot hst
          have htn : (t : Int) < ((l.length + 1 : Nat) : Int) := by omega
          have hjI : (j : Int) < ((succs l k).length : Int) := by omega
          clear ht htI k0 k1 k2 k3
          go_wp2
          go_round
          case rel => exact ⟨j + 1, by omega, by go_num, by rw [HE.out]⟩
          case measure => simp [intOf]; omega
        · obtain rfl : j = (succs l k).length := by omega
          have hot := outTo_lt HB16.out l k (succs l k).length
          rw [outTo_all] at hot ⊢
          generalize outSet l (liveFix l) k = o at *
          have hws := wset_lt x
          have han := bits_andNot64 (wset x) o (by omega) (by omega)
          clear g0 hr hL4
          go_wp2_with fail
          refine (written_c x _).mono ?_
          rintro e w5 ⟨rfl, hb5⟩
          have hb6 := below_trans hb4 (Nat.le_refl _) hb5
          have ho6 := OR.below ho4 hb5 (Nat.le_refl _)
          have hs6 := hb6.size
          clear k0 k1 k2 k3 hb5 ho4 hb4
          by_cases hz : mdiff (wset x) o = 0
          · have hD := Lib.hid (show deadN l (k + 1) = deadN l k by rw [HSU.out, HDB.out, hz]; simp)
            rw [hz] at han
            clear hz
            go_wp2
            go_roundw
            case rel => exact ⟨k + 1, A1, c1, by omega, by go_num, by rw [hD.out], by rw [hD.out]; exact ho6, hb6⟩
            case measure => simp [intOf]; omega
          · have hzb : (mdiff (wset x) o == 0) = false := beq_eq_false_iff_ne.2 hz
            have hzi : (((mdiff (wset x) o : Nat) : Int) != 0) = true := by rw [bne_iff_ne]; omega
            have hD := Lib.hid (show deadN l (k + 1) = deadN l k ++ [k] by rw [HSU.out, HDB.out, hzb]; simp)
            have hlen : (deadN l (k + 1)).length = (deadN l k).length + 1 := by rw [hD.out]; simp
            have HO6 := Lib.hid (OR.alloc ho6 (.cells #[.int .i64 k] 3))
            generalize mdiff (wset x) o = md at *
            clear hz hzb
            go_wp2_with (at_builtin; refine app_int rfl _ _ rfl w2.heap.size A1 _ c1 _ HO6.out rfl k w5.heap.size 1 rfl ?hc ?hn ?hb ?_)
            case hc => simp [go_sem]
            case hn => omega
            case hb => first | omega | (simp; omega)
            intro A' c' w7 ho7 hg7
            have hb7 := below_app hb6 hs6 ho6 (Nat.le_refl _) hg7
            go_wp2
            go_roundw
            case rel => exact ⟨k + 1, A', c', by omega, by go_num, by rw [hlen], by rw [hlen]; unfold natL at *; rw [hD.out, List.map_append]; exact ho7, hb7⟩
            case measure => simp [intOf]; omega
    · obtain rfl : k = l.length := by omega
      have hdl : (deadL l).length = (deadN l l.length).length := by simp [deadL]
      go_wp2
      go_ret
      refine ⟨A1, c1, ?_, ?_, below_trans hbW (Nat.le_refl _) hb⟩
      · rw [hdl]; rfl
      · exact .inr (by rw [hdl]; exact OR.mono ho hs2)

theorem dead_any {l : List Cd} {k : Nat} (hk : k < l.length) : (deadL l).any (fun x => x == (k : Int)) = deadB l k := by
  cases hd : deadB l k with
  | true => exact List.any_eq_true.2 ⟨(k : Int), by unfold deadL; exact List.mem_map.2 ⟨k, deadN_mem.2 ⟨hk, hd⟩, rfl⟩, by simp⟩
  | false =>
    rw [List.any_eq_false]
    intro x hx
    unfold deadL at hx
    obtain ⟨j, hj, rfl⟩ := List.mem_map.1 hx
    have := (deadN_mem.1 hj).2
    simp
    intro e
    have e' : j = k := by omega
    rw [e', hd] at this
    cases this

def IDDRel (w : World) (l : List Cd) (xv : Value) (wr : World) : Prop :=
  ∃ (X : List Cd) (A : Option Addr) (c : Nat), xv = .slice A X.length c ∧ RdC wr wr.heap.size A X ∧ (A = none → c = 0) ∧ Below w.heap.size w wr ∧ Hid (pv X = true) ∧ Hid (dropD l = dropD X) ∧ X.length ≤ 40

def IDIRel (wo : World) (X : List Cd) (yv kv : Value) (wr : World) : Prop :=
  ∃ (k : Nat) (A : Option Addr) (c : Nat), k ≤ X.length ∧ kv = .int .i64 k ∧ yv = .slice A (keepN X k).length c ∧ OC wr wo.heap.size A (keepN X k).length c (keepN X k) ∧ Below wo.heap.size wo wr

set_option maxRecDepth 100000 in
set_option maxHeartbeats 8000000 in
theorem idropDead_c (A : Option Addr) (c : Nat) (l : List Cd) (w : World) (hA : RdC w w.heap.size A l) (hp : pv l = true) (hc0 : A = none → c = 0) :
    Calls Tryz.prog 44 #[.slice A l.length c] w (RetC w (dropDeadL l)) := by
  have HP := Lib.hid hp
  have h40 := (pv_iff.1 hp).1
  have HD := Lib.hid (show dropDeadL l = dropD l by simp [dropDeadL, hp, dropD])
  clear hp
  go_enter Tryz.func44, Tryz.ntmps44
  go_wp2
  go_loopw [0] (fun xv wr => IDDRel w l xv wr) (fun xv _ => match xv with | .slice _ n _ => n | _ => 0)
  case atStart => exact ⟨l, A, c, rfl, hA, hc0, Below.refl _ _, HP, Lib.hid rfl, h40⟩
  case round =>
    obtain ⟨X, A1, c1, rfl, hX, hc1, hb, HPX, HDX, hX40⟩ := hrel
    have hs := hb.size
    go_wp2_with fail
    refine (ideadPlaces_c A1 c1 X wr hX HPX.out).mono ?_
    rintro e w3 ⟨A2, c2, rfl, hod, hb3⟩
    have hrD := OwI.rd hod
    have hX3 := (hX.below hb3).more hb3.size
    have hbW3 := below_trans hb (Nat.le_refl _) hb3
    have hdl : (deadL X).length = (deadN X X.length).length := by simp [deadL]
    have hdn := deadN_len X X.length
    clear hod hX
    by_cases hd0 : deadN X X.length = []
    · have hz : (deadL X).length = 0 := by rw [hdl, hd0]; rfl
      have HE := Lib.hid (show dropDeadL l = X by rw [HD.out, HDX.out, dropD_done hd0])
      rw [hz]
      clear hd0 hz hdl hdn
      go_wp2_with fail
      refine (cloneC_c A1 c1 X w3 hX3 (by omega) hc1).mono ?_
      rintro e w4 ⟨A4, c4, rfl, ho4, hb4⟩
      go_wp2
      go_ret
      rw [HE.out]
      exact RetC.mono (RetC.of ho4 hb4) hbW3
    · have hpos : 0 < (deadN X X.length).length := List.length_pos_iff.2 hd0
      have hkl := keep_lt hd0
      have HE := Lib.hid (dropD_more hd0)
      have hdl2 : (deadL X).length ≤ 40 := by omega
      have hdp : 0 < (deadL X).length := by omega
      have HKL := Lib.hid hkl
      have hbeq : ((((deadL X).length : Nat) : Int) == 0) = false := beq_eq_false_iff_ne.2 (by omega)
      clear hd0 hdl hdn hpos hkl
      go_wp2_with fail
      go_loopw [4, 16] (fun yv kv wr => IDIRel w3 X yv kv wr) (fun _ kv _ => X.length - (intOf kv).toNat)
      case atStart => exact ⟨0, none, 0, Nat.zero_le _, rfl, rfl, OC.nil_ _ _, Below.refl _ _⟩
      case round =>
        clear hbeq hdp
        obtain ⟨k, Ay, cy, hk, rfl, rfl, hoy, hby⟩ := hrel
        have hsy := hby.size
        by_cases hlt : k < X.length
        · obtain ⟨b, off, x, rfl, hbB, hx, d0, d1, d2, d3⟩ := (hX3.below hby).at_ hlt
          have hcd := cdAt_get hx
          have HSK := Lib.hid (keepN_succ X k)
          have HCD := Lib.hid hcd
          have HAN := Lib.hid (dead_any hlt)
          have hkn := keepN_len X k
          have hX4 := Ext.alloc wr (.cells #[.int .i64 x.op, .int .i64 x.a, .int .i64 x.b, .int .i64 x.c] 57)
          have hC4 := heap_alloc_new wr (.cells #[.int .i64 x.op, .int .i64 x.a, .int .i64 x.b, .int .i64 x.c] 57)
          have hb4 := hby.alloc hsy (.cells #[.int .i64 x.op, .int .i64 x.a, .int .i64 x.b, .int .i64 x.c] 57)
          have ho4 := OR.ext hoy hX4
          have hr4 := (hrD.below hb4).more hb4.size
          clear hx hcd
          go_wp2_with fail
          generalize wr.alloc (.cells #[.int .i64 x.op, .int .i64 x.a, .int .i64 x.b, .int .i64 x.c] 57) = w4 at *
          generalize wr.heap.size = C at *
          have hs4 := hb4.size
          clear d0 d1 d2 d3 hX4 hoy
          refine (sliceContains_c A2 c2 (deadL X) k w4 hr4 (by omega)).mono ?_
          rintro e w5 ⟨rfl, rfl⟩
          rw [HAN.out]
          have k0 := cell_of_heap hC4 0
          have k1 := cell_of_heap hC4 1
          have k2 := cell_of_heap hC4 2
          have k3 := cell_of_heap hC4 3
          clear hC4 hr4
          cases hb0 : deadB X k with
          | true =>
            have hSK := Lib.hid (show keepN X (k + 1) = keepN X k by rw [HSK.out, hb0]; simp)
            clear hb0
            go_wp2
            go_roundw
            case rel => exact ⟨k + 1, Ay, cy, by omega, by go_num, by rw [hSK.out], by rw [hSK.out]; exact ho4, hb4⟩
            case measure => simp [intOf]; omega
          | false =>
            have HO4 := Lib.hid (OR.alloc ho4 (.cells #[.int .i64 x.op, .int .i64 x.a, .int .i64 x.b, .int .i64 x.c] 57))
            have hSK := Lib.hid (show keepN X (k + 1) = keepN X k ++ [x] by rw [HSK.out, hb0, HCD.out]; rfl)
            have hlen : (keepN X (k + 1)).length = (keepN X k).length + 1 := by rw [hSK.out]; simp
            have hkl1 : (keepN X k).length ≤ 40 := by omega
            clear hb0
            go_wp2_with (at_builtin; refine app_code rfl _ _ rfl w3.heap.size Ay _ cy _ HO4.out rfl x w4.heap.size 1 rfl ?h0 ?h1 ?h2 ?h3 ?hn ?hb ?_)
            first | (case h0 => simp [go_sem]) | skip
            first | (case h1 => simp [go_sem]) | skip
            first | (case h2 => simp [go_sem]) | skip
            first | (case h3 => simp [go_sem]) | skip
            case hn => omega
            case hb => first | omega | (simp; omega)
            intro A' c' w6 ho6 hg6
            have hb6 := below_app hb4 hs4 ho4 (Nat.le_refl _) hg6
            go_wp2
            go_roundw
            case rel => exact ⟨k + 1, A', c', by omega, by go_num, by rw [hlen], by rw [hlen, hSK.out]; exact ho6, hb6⟩
            case measure => simp [intOf]; omega
        · obtain rfl : k = X.length := by omega
          have hkp := Lib.hid (keep_ok HPX.out)
          have hbx := below_trans hbW3 (Nat.le_refl _) hby
          go_wp2
          go_roundw
          case rel => exact ⟨keepN X X.length, Ay, cy, rfl, OC.rd hoy, OC.nilc hoy, hbx, hkp, Lib.hid (by rw [HDX.out, HE.out]), by have := HKL.out; omega⟩
          case measure => simp; exact HKL.out