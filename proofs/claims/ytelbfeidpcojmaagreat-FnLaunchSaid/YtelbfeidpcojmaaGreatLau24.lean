/- Part 24 of what the claim needs. -/
import Derived.Test.YtelbfeidpcojmaaGreatLau2
import Derived.Test.YtelbfeidpcojmaaGreatLau4
import Derived.Test.YtelbfeidpcojmaaGreatLau12
import Derived.Test.YtelbfeidpcojmaaGreatLau19
import Derived.Test.YtelbfeidpcojmaaGreatLau23
import Derived.ProofKit
import Derived.OpenShut
import Derived.Carry
import Derived.Deep.Slices
import Derived.ChangeArms
namespace Go.Proofs.YtelbfeidpcojmaaGreat
open Go.RowKit
set_option linter.unusedVariables false
set_option linter.unusedSimpArgs false

set_option maxRecDepth 100000 in
set_option maxHeartbeats 8000000 in
theorem fnLaunch_c (w : World) (A : Option Addr) (c : Nat) (bs : List Int) (hA : Reads w w.heap.size 1 A bs.length (bs.map (.int .u8))) (hl : bs.length ≤ 9223372036854775807) (hb : ∀ x ∈ bs, 0 ≤ x ∧ x ≤ 255) (hcap : bs.length ≤ c) :
    Calls Tryz.prog 4 #[.slice A bs.length c] w fun e w' => e = .returned (.bool true) ∧ Below w.heap.size w w' := by
  by_cases hbig0 : 1048576 < bs.length
  · go_enter Tryz.func4, Tryz.ntmps4
    go_wp2
    go_ret
    exact ⟨rfl, Below.refl _ _⟩
  · go_enter Tryz.func4, Tryz.ntmps4
    go_wp2_with fail
    refine (drawLaunch2_c A c bs w hA hb hl hcap).mono ?_
    rintro e w1 ⟨l, A1, c1, n, mem, Ar, cr, rfl, hl2, hm40, hn9, hcn, hcl, r1, rM, hB⟩
    have hVl := launchM_len l n mem
    have HRC := Lib.hid (reason_cases l n mem)
    have HSA := Lib.hid (fun W a b => sLaunch_c A1 Ar c1 cr l n mem W a b (by omega) (by omega))
    unfold LaP at HSA
    go_wp2_with fail
    refine (iLaunch_c A1 Ar c1 cr l n mem w1 r1 rM (by omega) (by omega)).mono ?_
    rintro e w2 ⟨M1, d1, rfl, o1, b2⟩
    replace r1 := (r1.below b2).more b2.size
    replace rM := (rM.below b2).more b2.size
    replace hB := below_trans hB (Nat.le_refl _) b2
    clear b2
    have v1 := OwI.rd o1
    clear o1
    have HLM := Lib.hid (show launchM l n mem = if reasonOf l n mem = 0 then runOf (optL l) n mem else if reasonOf l n mem = 1 then [] else mem from rfl)
    have HSO := Lib.hid (fun xs a b => safe_order (l := l) (n := n) (m := mem) (xs := xs) a b)
    have HOR := Lib.hid (fun h => (opt_run (l := l) (n := n) (mem := mem) h).2)
    have HSF := Lib.hid (fun W a b => isSafe_c A1 Ar c1 cr l n mem W a b (by omega) (by omega))
    generalize hVe : launchM l n mem = V at *
    generalize hre : reasonOf l n mem = rs at *
    go_wp2_with fail
    refine (HSA.out w2 r1 rM).mono ?_
    rintro e w3 ⟨M2, d2, rfl, o2, b3⟩
    replace r1 := (r1.below b3).more b3.size
    replace rM := (rM.below b3).more b3.size
    replace v1 := (v1.below b3).more b3.size
    replace hB := below_trans hB (Nat.le_refl _) b3
    clear b3
    have v2 := OwI.rd o2
    clear HSA o2
    go_wp2_with fail
    refine (sameInts_c M1 M2 d1 d2 V w3 v1 v2 (by omega)).mono ?_
    rintro e w4 ⟨rfl, b4⟩
    replace r1 := (r1.below b4).more b4.size
    replace rM := (rM.below b4).more b4.size
    replace v1 := (v1.below b4).more b4.size
    replace v2 := (v2.below b4).more b4.size
    replace hB := below_trans hB (Nat.le_refl _) b4
    clear b4
    clear v2
    clear hVe hre
    rcases HRC.out with ⟨rfl, hok⟩ | ⟨hok, hm1, hm32, hrs⟩
    · have hV : V = [] := HLM.out
      subst hV
      have HK := Lib.hid hok
      clear HRC HLM HSO HOR HSF hok
      go_wp2_with fail
      refine (runs_c A1 Ar c1 cr l n mem w4 r1 rM (by omega) (by omega)).mono ?_
      rintro e w5 ⟨rfl, b5⟩
      replace r1 := (r1.below b5).more b5.size
      replace rM := (rM.below b5).more b5.size
      replace v1 := (v1.below b5).more b5.size
      replace hB := below_trans hB (Nat.le_refl _) b5
      clear b5
      rw [HK.out]
      go_wp2_with fail
      refine (alive_c _).mono ?_
      rintro e wz ⟨rfl, rfl⟩
      go_wp2
      go_ret
      exact ⟨rfl, hB⟩
    · rcases hrs with rfl | hrs
      · have hV : V = runOf l n mem := HLM.out.trans (HOR.out hok)
        have h3 := hok
        simp only [lockOk, Bool.and_eq_true] at h3
        have hn := inR_iff.1 h3.2.1
        obtain ⟨N, rfl⟩ := Int.eq_ofNat_of_zero_le (show 0 ≤ n by omega)
        have hN1 : 1 ≤ N := by omega
        have hN8 : N ≤ 8 := by omega
        have hO := HSO.out (downUp N N) rfl (downUp_ok hN1 hN8)
        rw [← hV] at hO
        have HO := Lib.hid hO
        have hdl := downUp_len N N
        clear hV h3 hn hO HLM HSO HOR HRC hok
        have hr0 : ((0 : Int) == 0) = true := rfl
        go_wp2_with fail
        have hOw : OI (w4.alloc (.cells #[] 3)) w4.heap.size (some ⟨w4.heap.size, 0, none⟩) 0 0 [] := OI.empty_ w4 w4.heap.size (Nat.le_refl _)
        have HOw := Lib.hid hOw
        have b9 : Below w4.heap.size w4 (w4.alloc (.cells #[] 3)) := (by repeat (first | exact Below.refl _ _ | assumption | refine Below.alloc ?_ (by simp <;> omega) _ | refine Below.setCell ?_ (by simp <;> omega) _ | refine Below.drew ?_))
        have HB9 := Lib.hid b9
        have HR := Lib.hid (And.intro r1 (And.intro rM (And.intro v1 hB)))
        clear r1 rM v1 hB hOw b9
        go_loopw [10, 11] (fun ov kv wr => ∃ (k : Nat) (A : Option Addr) (c : Nat), k ≤ N ∧ kv = .int .i64 k ∧ ov = .slice A (k + k : Nat) c ∧ OI wr w4.heap.size A (k + k) c (downUp N k) ∧ Below w4.heap.size w4 wr) (fun _ kv _ => N - (intOf kv).toNat)
        case atStart => exact ⟨0, _, _, Nat.zero_le _, rfl, rfl, HOw.out, HB9.out⟩
        case round =>
          obtain ⟨k, AO, cO, hk, rfl, rfl, hO, hbr⟩ := hrel
          have HOr := Lib.hid hO
          have HBr := Lib.hid hbr
          have hsr := hbr.size
          clear HOw HB9 hO hbr
          by_cases hlt : k < N
          · have hkI : (k : Int) < (N : Int) := by omega
            have hkk : wrap64 (wrap64 ((N : Int) - 1) - k) = (N : Int) - 1 - k := by unfold wrap64; omega
            have HOa := Lib.hid (OR.alloc HOr.out (.cells #[.int .i64 ((N : Int) - 1 - k), .int .i64 k] 3))
            have HBa := Lib.hid (HBr.out.alloc hsr (.cells #[.int .i64 ((N : Int) - 1 - k), .int .i64 k] 3))
            have hsa : w4.heap.size ≤ (wr.alloc (.cells #[.int .i64 ((N : Int) - 1 - k), .int .i64 k] 3)).heap.size := HBa.out.size
            go_wp2_with (at_builtin; refine app_row 24 3 _ 1 8 Tryz.underlying24 infoInt rfl (by decide) (by decide) rfl _ _ rfl w4.heap.size AO (k + k) cO _ HOa.out rfl wr.heap.size 2 2 [.int .i64 ((N : Int) - 1 - k), .int .i64 k] rfl rfl ?hc ?h1 ?hn ?hb ?_)
            case hc =>
              intro j u hu
              match j, hu with
              | 0, hu => simp at hu; subst hu; simp [go_sem]
              | 1, hu => simp at hu; subst hu; simp [go_sem]
            case h1 => intro u hu; simp at hu; rcases hu with rfl | rfl <;> rfl
            case hn => omega
            case hb => exact hsa
            intro A2 c2 w2 ho2 hg2
            have HB2 := Lib.hid (below_gr HBa.out hsa HOa.out (Nat.le_refl _) hg2)
            have HO2 := Lib.hid (show OI w2 w4.heap.size A2 (k + k + 2) c2 (downUp N (k + 1)) by
              have h : OR w2 w4.heap.size 3 1 A2 (k + k + 2) c2 ((downUp N k).map (.int .i64) ++ [.int .i64 ((N : Int) - 1 - k), .int .i64 k]) := ho2
              unfold OI downUp
              rw [List.map_append]
              exact h)
            clear ho2 hg2 HOa HBa
            go_wp2
            go_roundw
            case rel => exact ⟨k + 1, A2, c2, by omega, by go_num, by rw [show k + 1 + (k + 1) = k + k + 2 by omega], by rw [show k + 1 + (k + 1) = k + k + 2 by omega]; exact HO2.out, HB2.out⟩
            case measure => simp [intOf]; omega
          · obtain rfl : k = N := by omega
            have HX := Lib.hid (show RdI wr wr.heap.size AO (downUp k k) by
              have h := OR.reads HOr.out
              unfold RdI
              rw [downUp_len]
              exact h)
            have hdl2 : k + k = (downUp k k).length := hdl.symm
            have r1 := (HR.out.1.below HBr.out).more hsr
            have rM := (HR.out.2.1.below HBr.out).more hsr
            have v1 := (HR.out.2.2.1.below HBr.out).more hsr
            have hB := below_trans HR.out.2.2.2 (Nat.le_refl _) HBr.out
            have hkN : ¬ ((k : Int) < (k : Int)) := by omega
            have hxlen : (downUp k k).length ≤ 16 := by omega
            generalize hxs : downUp k k = xs at *
            clear hxs
            rw [hdl2]
            clear hdl hdl2 HOr
            go_wp2_with fail
            refine (HSF.out wr r1 rM).mono ?_
            rintro e w3 ⟨rfl, b3⟩
            replace r1 := (r1.below b3).more b3.size
            replace rM := (rM.below b3).more b3.size
            replace v1 := (v1.below b3).more b3.size
            have HX3 := Lib.hid ((HX.out.below b3).more b3.size)
            replace hB := below_trans hB (Nat.le_refl _) b3
            clear b3 HX
            go_wp2_with fail
            refine (iRunOrder_c A1 Ar AO c1 cr cO l k mem xs w3 r1 rM HX3.out (by omega) (by omega) (by omega)).mono ?_
            rintro e w4 ⟨M3, d3, rfl, o3, b4⟩
            rw [HO.out] at o3 ⊢
            replace v1 := (v1.below b4).more b4.size
            have v3 := OwI.rd o3
            replace hB := below_trans hB (Nat.le_refl _) b4
            clear o3 b4
            go_wp2_with fail
            refine (sameInts_c M1 M3 d1 d3 V w4 v1 v3 (by omega)).mono ?_
            rintro e w5 ⟨rfl, b5⟩
            replace hB := below_trans hB (Nat.le_refl _) b5
            go_wp2
            go_ret
            exact ⟨rfl, hB⟩
      · have hV : V = mem := by rcases hrs with rfl | rfl <;> exact HLM.out
        subst hV
        have hrn : (rs == 0) = false := by rcases hrs with rfl | rfl <;> rfl
        have hr1 : (rs == 1) = false := by rcases hrs with rfl | rfl <;> rfl
        have hrr : (rs == rs) = true := by simp
        clear HLM HSO HOR HRC hok hrs
        go_wp2_with fail
        refine (sameInts_c M1 Ar d1 cr V w4 v1 rM (by omega)).mono ?_
        rintro e w6 ⟨rfl, b6⟩
        replace r1 := (r1.below b6).more b6.size
        replace rM := (rM.below b6).more b6.size
        replace v1 := (v1.below b6).more b6.size
        replace hB := below_trans hB (Nat.le_refl _) b6
        clear b6
        go_wp2_with fail
        refine (HSF.out w6 r1 rM).mono ?_
        rintro e w7 ⟨rfl, b7⟩
        replace r1 := (r1.below b7).more b7.size
        replace rM := (rM.below b7).more b7.size
        replace v1 := (v1.below b7).more b7.size
        replace hB := below_trans hB (Nat.le_refl _) b7
        clear b7
        rw [hrn]
        go_wp2
        go_ret
        exact ⟨rfl, hB⟩

open Go.ChangeShapes Go.WideShapes Go.RowKit Go.Deep

theorem below_trodAll {H : Type} {enc : TypeId × Value → H} {P : Program} (hl : laidOutB P = true) {W W' : World} (hb : Below W.heap.size W W') :
    ∀ (ts : List TypeId) (vs : List Value) (ds : List (DataW H)) (ps : List MemPlace), ts.all (fun t => P.readableRec t && decide (t < P.types.size)) = true →
      DataW.TrodAll enc P W 0 (fun _ => true) true ts vs ds ps → (∀ x ∈ ps, x.block < W.heap.size) →
      DataW.TrodAll enc P W' 0 (fun b => decide (b < W.heap.size)) true ts vs ds ps
  | [], vs, ds, ps, _, h, _ => by
    obtain ⟨rfl, rfl, rfl⟩ := trodAll_nil h
    exact trodAll_mk0
  | t :: ts, vs, ds, ps, ht, h, hlt => by
    obtain ⟨v, vs', d, ds', p, q, rfl, rfl, rfl, h0, h1⟩ := trodAll_cons h
    simp only [List.all_cons, Bool.and_eq_true, decide_eq_true_eq] at ht
    exact trodAll_cons_mk (Below.trod hl ht.1.1 ht.1.2 h0 hb (fun x hx => hlt x (by simp [hx])))
      (below_trodAll hl hb ts vs' ds' q (by simpa using ht.2) h1 (fun x hx => hlt x (by simp [hx])))

section
variable {H : Type} {enc : TypeId × Value → H} {P : Program} {w : World}

theorem one_int {spare : Nat → Bool} {held : Bool} {base n : Nat} {t : TypeId} {k : IntKind} {v : Value} {y : DataW H × List MemPlace} (ht : P.underlying t = some (.int k)) (h : DataW.trod enc P w base spare held n t [v] = some y) : ∃ z, v = .int k z := by
  obtain ⟨z, e, _⟩ := DataW.trod_int ht h
  exact ⟨z, by simpa using e⟩

theorem cell_at {a : Addr} {v : Value} (h : w.cell? (a.add 0) = some v) : ∃ b off, a = ⟨b, off, none⟩ ∧ b < w.heap.size := by
  have hs := World.cell?_spot h
  have hb := World.block_lt_of_cell? w _ h
  rw [block_of_add] at hb
  obtain ⟨b, off, s⟩ := a
  have : s = none := by simpa [Addr.add] using hs
  subst this
  exact ⟨b, off, rfl, hb⟩

/-- A slice of one-cell numbers that came in. -/
theorem open_row1 {t e : TypeId} {k : IntKind} {r : Reach} {b0 : Nat} {v : Value} {d : DataW H} {p : List MemPlace} (ht : P.underlying t = some (.slice e)) (he : P.underlying e = some (.int k)) (hc : P.cellsOf e = 1)
    (hv : Value.okWide P w r b0 t v) (h : DataW.Trod enc P w 0 (fun _ => true) true t v d p) :
    ∃ (A : Option Addr) (c : Nat) (xs : List Int), v = .slice A xs.length c ∧ Reads w w.heap.size 1 A xs.length (xs.map (.int k)) ∧ xs.length ≤ 9223372036854775807 := by
  obtain ⟨a0, len, cap, rfl⟩ := okWide_slice ht hv
  obtain ⟨fuel, hf⟩ := h
  rcases open_ints ht he hc hf with ⟨hcs, hx⟩ | ⟨a, len', cap', zs, hcs, _, hl, hm, hz, hx, hcell, hwz⟩
  · simp [Value.cells] at hcs
    obtain ⟨rfl, rfl, rfl⟩ := hcs
    exact ⟨none, 0, [], rfl, Reads.none_, by simp⟩
  · simp [Value.cells] at hcs
    obtain ⟨rfl, rfl, rfl⟩ := hcs
    simp only [if_true] at hz
    unfold maxLen at hm
    have hlen : (zs.take len).length = len := by rw [List.length_take]; omega
    refine ⟨some a, cap, zs.take len, by rw [hlen], ⟨by simp, fun hn => ?_⟩, by omega⟩
    rw [hlen] at hn
    obtain ⟨b, off, rfl, hb⟩ := cell_at (hcell 0 (by omega))
    refine ⟨b, off, rfl, hb, fun j u hu => ?_⟩
    rw [List.getElem?_map, List.getElem?_take] at hu
    split at hu
    · have h1 := hcell j (by omega)
      rw [add_lit] at h1
      rw [h1, ← hu, List.getElem?_eq_getElem (by omega)]
      simp [List.getD, List.getElem?_eq_getElem (show j < zs.length by omega)]
    · simp at hu

/-- A slice of one-cell numbers that came in. -/
theorem open_bytes {t e : TypeId} {k : IntKind} {r : Reach} {b0 : Nat} {v : Value} {d : DataW H} {p : List MemPlace} (ht : P.underlying t = some (.slice e)) (he : P.underlying e = some (.int k)) (hc : P.cellsOf e = 1)
    (hv : Value.okWide P w r b0 t v) (h : DataW.Trod enc P w 0 (fun _ => true) true t v d p) :
    ∃ (A : Option Addr) (c : Nat) (xs : List Int), v = .slice A xs.length c ∧ Reads w w.heap.size 1 A xs.length (xs.map (.int k)) ∧ xs.length ≤ 9223372036854775807 ∧ (∀ x ∈ xs, (Lit.int k x).wf = true) ∧ xs.length ≤ c := by
  obtain ⟨a0, len, cap, rfl⟩ := okWide_slice ht hv
  obtain ⟨fuel, hf⟩ := h
  rcases open_ints ht he hc hf with ⟨hcs, hx⟩ | ⟨a, len', cap', zs, hcs, _, hl, hm, hz, hx, hcell, hwz⟩
  · simp [Value.cells] at hcs
    obtain ⟨rfl, rfl, rfl⟩ := hcs
    exact ⟨none, 0, [], rfl, Reads.none_, by simp, by simp, by simp⟩
  · simp [Value.cells] at hcs
    obtain ⟨rfl, rfl, rfl⟩ := hcs
    simp only [if_true] at hz
    unfold maxLen at hm
    have hlen : (zs.take len).length = len := by rw [List.length_take]; omega
    refine ⟨some a, cap, zs.take len, by rw [hlen], ⟨by simp, fun hn => ?_⟩, by omega, fun x hx => hwz x (List.mem_of_mem_take hx), by omega⟩
    rw [hlen] at hn
    obtain ⟨b, off, rfl, hb⟩ := cell_at (hcell 0 (by omega))
    refine ⟨b, off, rfl, hb, fun j u hu => ?_⟩
    rw [List.getElem?_map, List.getElem?_take] at hu
    split at hu
    · have h1 := hcell j (by omega)
      rw [add_lit] at h1
      rw [h1, ← hu, List.getElem?_eq_getElem (by omega)]
      simp [List.getD, List.getElem?_eq_getElem (show j < zs.length by omega)]
    · simp at hu

theorem wf_byte {x : Int} (h : (Lit.int .u8 x).wf = true) : 0 ≤ x ∧ x ≤ 255 := by
  simp [Lit.wf, IntKind.min, IntKind.max, IntKind.signed, IntKind.bits] at h
  omega

theorem row_of {n : Nat} {p : Nat → Value → Prop} (h : ∀ i, i < n → ∃ v, p i v) : ∃ f : Nat → Value, ∀ i, i < n → p i (f i) := by
  classical
  exact ⟨fun i => if hi : i < n then (h i hi).choose else .bool false, fun i hi => by simp only [dif_pos hi]; exact (h i hi).choose_spec⟩

/-- A slice of instructions that came in. -/
theorem open_codes {t e : TypeId} {f0 f1 f2 f3 : Field} {r : Reach} {b0 : Nat} {v : Value} {d : DataW H} {p : List MemPlace} (ht : P.underlying t = some (.slice e)) (he : P.underlying e = some (.struct #[f0, f1, f2, f3])) (hc : P.cellsOf e = 4)
    (e0 : P.underlying f0.type = some (.int .i64)) (e1 : P.underlying f1.type = some (.int .i64)) (e2 : P.underlying f2.type = some (.int .i64)) (e3 : P.underlying f3.type = some (.int .i64))
    (o0 : f0.offset = 0 ∧ P.cellsOf f0.type = 1) (o1 : f1.offset = 1 ∧ P.cellsOf f1.type = 1) (o2 : f2.offset = 2 ∧ P.cellsOf f2.type = 1) (o3 : f3.offset = 3 ∧ P.cellsOf f3.type = 1)
    (hv : Value.okWide P w r b0 t v) (h : DataW.Trod enc P w 0 (fun _ => true) true t v d p) :
    ∃ (A : Option Addr) (c : Nat) (l : List Cd), v = .slice A l.length c ∧ RdC w w.heap.size A l ∧ l.length ≤ 9223372036854775807 := by
  obtain ⟨a0, len, cap, rfl⟩ := okWide_slice ht hv
  obtain ⟨fuel, hf⟩ := h
  rcases open_slice ht hf with ⟨hcs, hx⟩ | ⟨a, len', cap', m, n, D, Pl, hcs, _, hl, hm, hmm, hx, hi⟩
  · simp [Value.cells] at hcs
    obtain ⟨rfl, rfl, rfl⟩ := hcs
    exact ⟨none, 0, [], rfl, Reads.none_, by simp⟩
  · simp [Value.cells] at hcs
    obtain ⟨rfl, rfl, rfl⟩ := hcs
    simp only [if_true] at hmm
    subst hmm
    unfold maxLen at hm
    rw [hc] at hi
    have key : ∀ i, i < len → ∃ x : Cd, ∀ j u, (cdCells x)[j]? = some u → w.cell? (a.add (i * 4 + j)) = some u := by
      intro i hil
      obtain ⟨cs', h1, h2⟩ := hi i (by omega)
      obtain ⟨_, hlen, hcell⟩ := World.cells?_some h1
      obtain ⟨xs, n', _, _, _, hxl, hg⟩ := DataW.trod_struct he h2
      match cs', hlen with
      | [c0, c1, c2, c3], _ =>
        match xs, hxl with
        | [y0, y1, y2, y3], _ =>
          have g0 := hg 0 f0 rfl
          have g1 := hg 1 f1 rfl
          have g2 := hg 2 f2 rfl
          have g3 := hg 3 f3 rfl
          rw [o0.1, o0.2] at g0
          rw [o1.1, o1.2] at g1
          rw [o2.1, o2.2] at g2
          rw [o3.1, o3.2] at g3
          obtain ⟨z0, rfl⟩ := one_int e0 (v := c0) (by simpa using g0)
          obtain ⟨z1, rfl⟩ := one_int e1 (v := c1) (by simpa using g1)
          obtain ⟨z2, rfl⟩ := one_int e2 (v := c2) (by simpa using g2)
          obtain ⟨z3, rfl⟩ := one_int e3 (v := c3) (by simpa using g3)
          refine ⟨⟨z0, z1, z2, z3⟩, fun j u hu => ?_⟩
          have hj : j < 4 := by
            have := (List.getElem?_eq_some_iff.1 hu).1
            simpa [cdCells] using this
          have h3 := hcell j hj
          rw [add_of_add] at h3
          rw [h3]
          exact hu
    have key2 : ∃ f : Nat → Cd, ∀ i, i < len → ∀ j u, (cdCells (f i))[j]? = some u → w.cell? (a.add (i * 4 + j)) = some u := by
      classical
      exact ⟨fun i => if hi : i < len then (key i hi).choose else ⟨0, 0, 0, 0⟩, fun i hi => by simp only [dif_pos hi]; exact (key i hi).choose_spec⟩
    obtain ⟨f, hf2⟩ := key2
    have hlen : ((List.range len).map f).length = len := by simp
    refine ⟨some a, m, (List.range len).map f, by rw [hlen], ⟨cdsCells_length _, fun hn => ?_⟩, by omega⟩
    rw [hlen] at hn
    obtain ⟨b, off, rfl, hb⟩ := cell_at (by simpa using hf2 0 hn 0 _ rfl)
    refine ⟨b, off, rfl, hb, fun j u hu => ?_⟩
    have hj : j < len * 4 := by
      have := (List.getElem?_eq_some_iff.1 hu).1
      rw [cdsCells_length, hlen] at this
      exact this
    have h4 : j / 4 < len := by omega
    have hg := cdsCells_get ((List.range len).map f) (j / 4) (f (j / 4)) (by simp [h4]) (j % 4) (by omega)
    rw [show j / 4 * 4 + j % 4 = j from by omega, hu] at hg
    have h3 := hf2 (j / 4) h4 (j % 4) u hg.symm
    rw [show j / 4 * 4 + j % 4 = j from by omega, add_lit] at h3
    exact h3
end

end Go.Proofs.YtelbfeidpcojmaaGreat
