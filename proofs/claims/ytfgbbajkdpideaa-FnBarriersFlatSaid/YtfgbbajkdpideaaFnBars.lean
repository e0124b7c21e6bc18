/- FnBarriersFlat: BarriersFlat of both packages, the walk of the law. -/
import Derived.Test.YtfgbbajkdpideaaBlkA
import Derived.Test.YtfgbbajkdpideaaFlatLaw
import Derived.Test.YtfgbbajkdpideaaEnds
import Derived.Test.YtfgbbajkdpideaaCountOps
import Derived.Test.YtfgbbajkdpideaaIRun
import Derived.Test.YtfgbbajkdpideaaProfJ
namespace Go.Proofs.Ytfgbbajkdpideaa
open Go.RowKit
set_option linter.unusedVariables false
set_option linter.unusedSimpArgs false

theorem scanA_val (l : List Cd) : ∀ n d, scanA l n d = -1 ∨ ∃ q : Nat, scanA l n d = (q : Int)
  | 0, _ => .inl rfl
  | n + 1, d => by
    simp only [scanA]
    cases l[n]? with
    | none => exact .inl rfl
    | some x =>
      simp only
      split
      · cases d with
        | zero => exact .inr ⟨n, rfl⟩
        | succ d => exact scanA_val l n d
      · split
        · exact scanA_val l n _
        · exact scanA_val l n _
def FlTo (l : List Cd) (k : Nat) : Prop := ∀ j, j < k → (cdAt l j).op = 10 → aroundOf l j = -1
theorem FlTo.no {l : List Cd} {k : Nat} (hk : k < l.length) (h10 : (cdAt l k).op = 10) (h : aroundOf l k ≠ -1) : flatB l = false := by
  have : ¬ flatP l := fun hf => h (hf k hk h10)
  simp [flatB, this]
theorem FlTo.all {l : List Cd} (h : FlTo l l.length) : flatB l = pv l := by
  have : flatP l := h
  simp [flatB, this]
theorem FlTo.step {l : List Cd} {k : Nat} (h : FlTo l k) (h2 : (cdAt l k).op = 10 → aroundOf l k = -1) : FlTo l (k + 1) := by
  intro j hj ho
  by_cases e : j = k
  · subst e; exact h2 ho
  · exact h j (by omega) ho

set_option maxRecDepth 100000 in
set_option maxHeartbeats 4000000 in
theorem sBarriersFlat_c (A : Option Addr) (c : Nat) (l : List Cd) (w : World) (hA : RdC w w.heap.size A l) (hl : l.length ≤ 1000000000) :
    Calls Try.prog 7 #[.slice A l.length c] w fun e w' => e = .returned (.bool (flatB l)) ∧ Below w.heap.size w w' := by
  go_enter Try.func7, Try.ntmps7
  go_wp2
  go_loopw [3] (fun kv wr => ∃ k : Nat, k ≤ l.length ∧ kv = .int .i64 k ∧ Hid (FlTo l k) ∧ Below w.heap.size w wr) (fun kv _ => l.length - (intOf kv).toNat)
  case atStart => exact ⟨0, Nat.zero_le _, rfl, Lib.hid (fun j hj => absurd hj (Nat.not_lt_zero _)), Below.refl _ _⟩
  case round =>
    obtain ⟨k, hk, rfl, HF, hb⟩ := hrel
    by_cases hlt : k < l.length
    · have hkI : (k : Int) < (l.length : Int) := by omega
      have hAW := (hA.below hb).more hb.size
      obtain ⟨qb, qo, x, rfl, -, hx, l0, l1, l2, l3⟩ := hAW.at_ hlt
      have HX := Lib.hid (cdAt_get hx)
      clear hx
      by_cases h10 : x.op = 10
      · have i10 : (x.op == 10) = true := beq_iff_eq.2 h10
        have H10 := Lib.hid (show (cdAt l k).op = 10 by rw [HX.out]; exact h10)
        clear h10
        go_wp2_with fail
        refine (l4Around_c _ c l k wr hAW hl (by omega)).mono ?_
        rintro e w2 ⟨rfl, b2⟩
        have hb2 := below_trans hb (Nat.le_refl _) b2
        have hsc := scanA_val l k 0
        have HSC := Lib.hid hsc
        clear hsc
        by_cases hn : 0 ≤ aroundOf l k
        · have HN := Lib.hid (FlTo.no hlt H10.out (by omega))
          generalize aroundOf l k = v at *
          have hd : decide (v ≥ 0) = true := decide_eq_true hn
          go_wp2
          go_ret
          exact ⟨by rw [HN.out]; rfl, hb2⟩
        · have HN := Lib.hid (HF.out.step (fun _ => by rcases HSC.out with e | ⟨q, e⟩; exact e; unfold aroundOf at hn; omega))
          generalize aroundOf l k = v at *
          have hd : decide (v ≥ 0) = false := decide_eq_false hn
          go_wp2
          go_roundw
          case rel => exact ⟨k + 1, by omega, by go_num, HN, hb2⟩
          case measure => (simp [intOf] <;> omega)
      · have i10 : (x.op == 10) = false := beq_eq_false_iff_ne.2 h10
        have HN := Lib.hid (HF.out.step (k := k) (fun h => absurd (by rw [HX.out] at h; exact h) h10))
        clear h10
        go_wp2
        go_roundw
        case rel => exact ⟨k + 1, by omega, by go_num, HN, hb⟩
        case measure => (simp [intOf] <;> omega)
    · obtain rfl : k = l.length := by omega
      have HP := Lib.hid HF.out.all
      clear HF hlt hk
      go_wp2_with fail
      refine (sProgramValid_c A c l wr ((hA.below hb).more hb.size) hl).mono ?_
      rintro e w2 ⟨rfl, b2⟩
      go_wp2
      go_ret
      exact ⟨by rw [HP.out]; rfl, below_trans hb (Nat.le_refl _) b2⟩

set_option maxRecDepth 100000 in
set_option maxHeartbeats 4000000 in
theorem iBarriersFlat_c (A : Option Addr) (c : Nat) (l : List Cd) (w : World) (hA : RdC w w.heap.size A l) (hl : l.length ≤ 1000000000) :
    Calls Try.prog 6 #[.slice A l.length c] w fun e w' => e = .returned (.bool (flatB l)) ∧ Below w.heap.size w w' := by
  cases hp : pv l with
  | false =>
    have HF := Lib.hid (show flatB l = false by simp [flatB, hp])
    go_enter Try.func6, Try.ntmps6
    go_wp2_with fail
    refine (iProgramValid_c A c l w hA hl).mono ?_
    rintro e w1 ⟨rfl, b1⟩
    rw [hp]
    go_wp2
    go_ret
    exact ⟨by rw [HF.out]; rfl, b1⟩
  | true =>
    have h40 := (pv_iff.1 hp).1
    have HP := Lib.hid hp
    go_enter Try.func6, Try.ntmps6
    go_wp2_with fail
    refine (iProgramValid_c A c l w hA hl).mono ?_
    rintro e w1 ⟨rfl, b1⟩
    rw [hp]
    clear hp
    go_wp2_with fail
    refine (blocksA_c A c l w1 ((hA.below b1).more b1.size) (by omega) (pv_all HP.out)).mono ?_
    rintro e w2 ⟨b2, ⟨_, rfl, ga, oth, en, As, cs, hW, hPI, hAro⟩ | ⟨hno, _⟩⟩
    · have HA := Lib.hid hAro
      have b3 := below_trans b1 (Nat.le_refl _) b2
      clear hW hPI hAro
      go_wp2
      go_loopw [19] (fun kv wr => ∃ k : Nat, k ≤ l.length ∧ kv = .int .i64 k ∧ Hid (FlTo l k) ∧ Below w2.heap.size w2 wr) (fun kv _ => l.length - (intOf kv).toNat)
      case atStart => exact ⟨0, Nat.zero_le _, rfl, Lib.hid (fun j hj => absurd hj (Nat.not_lt_zero _)), Below.refl _ _⟩
      case round =>
        obtain ⟨k, hk, rfl, HF, hb⟩ := hrel
        by_cases hlt : k < l.length
        · have hkI : (k : Int) < (l.length : Int) := by omega
          have hb4 := below_trans b3 (Nat.le_refl _) hb
          obtain ⟨qb, qo, x, rfl, -, hx, l0, l1, l2, l3⟩ := (hA.below hb4).at_ hlt
          have HX := Lib.hid (cdAt_get hx)
          obtain ⟨A2, n2, c2, hc, -, hcase⟩ := HA.out k hlt
          have hc2 := cell_kept hb hc
          have hc3 := (Ext.alloc wr (.cells #[.int .i64 x.op, .int .i64 x.a, .int .i64 x.b, .int .i64 x.c] 50)).cell hc2
          have hbA : Below w2.heap.size w2 (wr.alloc (.cells #[.int .i64 x.op, .int .i64 x.a, .int .i64 x.b, .int .i64 x.c] 50)) := hb.alloc hb.size _
          have HC := Lib.hid (show (n2 = 0 → aroundOf l k = -1) ∧ (n2 ≠ 0 → aroundOf l k ≠ -1) by
            rcases hcase with ⟨e1, e2⟩ | ⟨g, p, cur, _, e2, e3, _⟩
            · exact ⟨fun _ => e2, fun h => absurd e1 h⟩
            · exact ⟨fun h => by omega, fun _ => by omega⟩)
          clear hx hc hcase
          by_cases h10 : x.op = 10
          · have i10 : (x.op == 10) = true := beq_iff_eq.2 h10
            have H10 := Lib.hid (show (cdAt l k).op = 10 by rw [HX.out]; exact h10)
            clear h10
            by_cases hn : n2 = 0
            · have HN := Lib.hid (HF.out.step (k := k) (fun _ => HC.out.1 hn))
              have hd : decide ((n2 : Int) > 0) = false := decide_eq_false (by omega)
              have hd2 : ¬ 0 < n2 := by omega
              clear hn
              go_wp2
              go_roundw
              case rel => exact ⟨k + 1, by omega, by go_num, HN, hbA⟩
              case measure => (simp [intOf] <;> omega)
            · have HN := Lib.hid (FlTo.no hlt H10.out (HC.out.2 hn))
              have hd : decide ((n2 : Int) > 0) = true := decide_eq_true (by omega)
              have hd2 : 0 < n2 := by omega
              go_wp2
              go_ret
              exact ⟨by rw [HN.out]; rfl, below_trans b3 (Nat.le_refl _) hbA⟩
          · have i10 : (x.op == 10) = false := beq_eq_false_iff_ne.2 h10
            have HN := Lib.hid (HF.out.step (k := k) (fun h => absurd (by rw [HX.out] at h; exact h) h10))
            clear h10
            go_wp2
            go_roundw
            case rel => exact ⟨k + 1, by omega, by go_num, HN, hbA⟩
            case measure => (simp [intOf] <;> omega)
        · obtain rfl : k = l.length := by omega
          have HQ := Lib.hid HF.out.all
          clear HF hlt hk
          go_wp2
          go_ret
          exact ⟨by rw [HQ.out, HP.out]; rfl, below_trans b3 (Nat.le_refl _) hb⟩
    · exact absurd (pv_iff.1 HP.out).2 hno

theorem bars_law {l : List Cd} (h : flatB l = true) : pv l = true ∧ l.length ≤ 40 ∧ wholeOf l ((4 : Nat) : Int) [1, 2, 3, 4, 5] = true ∧ opsOf l 10 (traceOf l ((4 : Nat) : Int) [1, 2, 3, 4, 5]) = countOp l 10 ∧ countOpI l 10 = (countOp l 10 : Int) := by
  simp only [flatB, Bool.and_eq_true, decide_eq_true_eq] at h
  obtain ⟨hp, hf⟩ := h
  obtain ⟨h1, h2⟩ := flat_law hp hf (n := 4) (by omega) (m := [1, 2, 3, 4, 5]) (by decide)
  have hok : lockOk l ((4 : Nat) : Int) [1, 2, 3, 4, 5] = true := by
    have e1 : inR ((4 : Nat) : Int) 1 8 = true := by decide
    have e2 : memOk [1, 2, 3, 4, 5] = true := by decide
    simp only [lockOk, hp, e1, e2, Bool.and_self]
  refine ⟨hp, (pv_iff.1 hp).1, ?_, h2, by simp [countOpI, hp]⟩
  simp only [wholeOf, hok, Int.toNat_natCast, h1]
  rfl
theorem prof_bar (l : List Cd) (n : Int) (m : List Int) : ∃ s a x y : Nat, profL l n m = .agg #[.int .i64 s, .int .i64 a, .int .i64 x, .int .i64 y, .int .i64 (opsOf l 10 (traceOf l n m))] := ⟨_, _, _, _, rfl⟩

set_option maxRecDepth 100000 in
set_option maxHeartbeats 8000000 in
theorem fnBarriersFlat_c (w : World) (A : Option Addr) (c : Nat) (bs : List Int) (hA : Reads w w.heap.size 1 A bs.length (bs.map (.int .u8))) (hl : bs.length ≤ 9223372036854775807) (hb : ∀ x ∈ bs, 0 ≤ x ∧ x ≤ 255) (hcap : bs.length ≤ c) :
    Calls Try.prog 3 #[.slice A bs.length c] w fun e w' => e = .returned (.bool true) ∧ Below w.heap.size w w' := by
  by_cases hbig0 : 1048576 < bs.length
  · go_enter Try.func3, Try.ntmps3
    go_wp2
    go_ret
    exact ⟨rfl, Below.refl _ _⟩
  · go_enter Try.func3, Try.ntmps3
    go_wp2_with fail
    refine (drawBarriersFlat_c A c bs w hA hb hl hcap).mono ?_
    rintro e w1 ⟨l, A1, c1, rfl, hl2, o1, hB⟩
    have r1 := OC.rd o1
    clear o1
    go_wp2_with fail
    refine (iBarriersFlat_c A1 c1 l w1 r1 (by omega)).mono ?_
    rintro e w2 ⟨rfl, b2⟩
    replace r1 := (r1.below b2).more b2.size
    replace hB := below_trans hB (Nat.le_refl _) b2
    clear b2
    go_wp2_with fail
    refine (sBarriersFlat_c A1 c1 l w2 r1 (by omega)).mono ?_
    rintro e w3 ⟨rfl, b3⟩
    replace r1 := (r1.below b3).more b3.size
    replace hB := below_trans hB (Nat.le_refl _) b3
    clear b3
    cases hf : flatB l with
    | false =>
      go_wp2_with fail
      refine (alive_c _).mono ?_
      rintro e wz ⟨rfl, rfl⟩
      go_wp2
      go_ret
      exact ⟨rfl, hB⟩
    | true =>
      obtain ⟨hp, hl40, hw, ho, hci⟩ := bars_law hf
      obtain ⟨s, a, x, y, hP⟩ := prof_bar l ((4 : Nat) : Int) [1, 2, 3, 4, 5]
      rw [ho] at hP
      have hcl := countOp_le l 10
      have HW := Lib.hid hw
      have HQ := Lib.hid (fun W Am h h2 => iProfileOf_c A1 Am c1 5 l ((4 : Nat) : Int) [1, 2, 3, 4, 5] W h h2 (by omega) (by decide))
      rw [hP] at HQ
      have HC := Lib.hid (fun W h => iCountOps_c A1 c1 l 10 W h (by omega))
      rw [hci] at HC
      clear hf hp hw ho hci hP
      generalize countOp l 10 = z at *
      go_wp2_with fail
      have rM : RdI (w3.alloc (.cells #[.int .i64 1, .int .i64 2, .int .i64 3, .int .i64 4, .int .i64 5] 3)) (w3.alloc (.cells #[.int .i64 1, .int .i64 2, .int .i64 3, .int .i64 4, .int .i64 5] 3)).heap.size (some ⟨w3.heap.size, 0, none⟩) [1, 2, 3, 4, 5] :=
        (OR.lit w3 w3.heap.size 3 1 5 #[.int .i64 1, .int .i64 2, .int .i64 3, .int .i64 4, .int .i64 5] (Nat.le_refl _) (by omega) rfl).reads
      have b4 : Below w3.heap.size w3 (w3.alloc (.cells #[.int .i64 1, .int .i64 2, .int .i64 3, .int .i64 4, .int .i64 5] 3)) := (by repeat (first | exact Below.refl _ _ | assumption | refine Below.alloc ?_ (by simp <;> omega) _ | refine Below.setCell ?_ (by simp <;> omega) _ | refine Below.drew ?_))
      replace r1 := (r1.below b4).more b4.size
      replace hB := below_trans hB (Nat.le_refl _) b4
      clear b4
      refine (iRunLock_c A1 _ c1 5 l (4 : Nat) [1, 2, 3, 4, 5] _ r1 rM (by omega) (by decide)).mono ?_
      rintro e w5 ⟨M1, d1, rfl, rm1, b5⟩
      replace r1 := (r1.below b5).more b5.size
      replace rM := (rM.below b5).more b5.size
      replace hB := below_trans hB (Nat.le_refl _) b5
      clear b5
      rw [HW.out]
      clear rm1
      clear rM
      go_wp2_with fail
      have rM : RdI (w5.alloc (.cells #[.int .i64 1, .int .i64 2, .int .i64 3, .int .i64 4, .int .i64 5] 3)) (w5.alloc (.cells #[.int .i64 1, .int .i64 2, .int .i64 3, .int .i64 4, .int .i64 5] 3)).heap.size (some ⟨w5.heap.size, 0, none⟩) [1, 2, 3, 4, 5] :=
        (OR.lit w5 w5.heap.size 3 1 5 #[.int .i64 1, .int .i64 2, .int .i64 3, .int .i64 4, .int .i64 5] (Nat.le_refl _) (by omega) rfl).reads
      have b6 : Below w5.heap.size w5 (w5.alloc (.cells #[.int .i64 1, .int .i64 2, .int .i64 3, .int .i64 4, .int .i64 5] 3)) := (by repeat (first | exact Below.refl _ _ | assumption | refine Below.alloc ?_ (by simp <;> omega) _ | refine Below.setCell ?_ (by simp <;> omega) _ | refine Below.drew ?_))
      replace r1 := (r1.below b6).more b6.size
      replace hB := below_trans hB (Nat.le_refl _) b6
      clear b6
      refine (HQ.out _ _ r1 rM).mono ?_
      rintro e w7 ⟨rfl, b7⟩
      replace r1 := (r1.below b7).more b7.size
      replace rM := (rM.below b7).more b7.size
      replace hB := below_trans hB (Nat.le_refl _) b7
      clear b7
      clear rM
      go_wp2
      have bp : Below w7.heap.size w7 (w7.alloc (.cells #[.int .i64 s, .int .i64 a, .int .i64 x, .int .i64 y, .int .i64 z] 31)) := (by repeat (first | exact Below.refl _ _ | assumption | refine Below.alloc ?_ (by simp <;> omega) _ | refine Below.setCell ?_ (by simp <;> omega) _ | refine Below.drew ?_))
      have hp := heap_alloc_new w7 (.cells #[.int .i64 s, .int .i64 a, .int .i64 x, .int .i64 y, .int .i64 z] 31)
      generalize w7.alloc (.cells #[.int .i64 s, .int .i64 a, .int .i64 x, .int .i64 y, .int .i64 z] 31) = wp at *
      replace r1 := (r1.below bp).more bp.size
      replace hB := below_trans hB (Nat.le_refl _) bp
      clear bp
      have t4 := cell_of_heap hp 4
      have r1d := r1.below (Below.refl wp.heap.size wp).drew
      have hzz : ((z : Int) == (z : Int)) = true := by simp
      go_region_law (go_simp; go_at_call 11; refine (HC.out wp.drew r1d).mono ?_; rintro e wq ⟨rfl, bq⟩; have hp4 := (Ext.of_below bq).heap_ (show wp.drew.heap[_]? = some _ from hp); have q4 := cell_of_heap hp4 4)
      all_goals
        have b5 := below_trans hB.drew (Nat.le_refl _) bq
        go_wp2
        go_ret
        exact ⟨rfl, b5⟩
end Go.Proofs.Ytfgbbajkdpideaa
