/- Part 17 of what the claim needs. -/
import Derived.Test.YtelbfeidpcojmaaRg13
namespace Go.Proofs.Ytelbfeidpcojmaa
open Go.RowKit
set_option linter.unusedVariables false
set_option linter.unusedSimpArgs false

theorem orRange_eq (lo : Nat) : ∀ c, orRange lo c = orR lo c
  | 0 => rfl
  | c + 1 => by simp only [orRange, orR, orRange_eq lo c]
theorem gMask_lanes (n s g : Nat) : lanesOf (gMask n s g) = grL n s g := by unfold gMask grL; rw [orRange_eq]
theorem gMask_lt {n s g : Nat} (n8 : n ≤ 8) (hg : g * s ≤ 8) : gMask n s g < 65536 := orRange_lt _ _ (by omega)

def groupsOk (l : List Cd) (n s : Int) (m xs : List Int) : Bool := lockOk l n m && ordOk xs (grMany n s)
noncomputable def groupsM (l : List Cd) (n s : Int) (m xs : List Int) : List Int := if groupsOk l n s m xs then (runE l (grSch n.toNat s.toNat xs) (Cw.start n.toNat m)).mem else []
/-- What a valid run in groups is about. -/
theorem groups_in {l : List Cd} {n s : Int} {m xs : List Int} (h : groupsOk l n s m xs = true) : ∃ N S G : Nat, n = (N : Int) ∧ s = (S : Int) ∧ grMany n s = (G : Int) ∧ 1 ≤ N ∧ N ≤ 8 ∧ 1 ≤ S ∧ S ≤ 8 ∧ 1 ≤ xs.length ∧ xs.length ≤ 40 ∧
    (∀ x ∈ xs, ∃ g : Nat, x = (g : Int) ∧ g * S < N ∧ g ≤ 8) ∧ SchOk N xs.length (grSch N S xs) ∧ pv l = true ∧ wordsOk m ∧ 1 ≤ m.length ∧ m.length ≤ 32 := by
  simp only [groupsOk, lockOk, Bool.and_eq_true] at h
  obtain ⟨⟨h1, h2, h3⟩, h4⟩ := h
  obtain ⟨G, hG, G1, G8, x1, x2, hx, hc⟩ := ordOk_in h4
  have hsr : inR n 1 8 = true ∧ inR s 1 8 = true := by
    refine ⟨h2, ?_⟩
    cases hs : inR s 1 8 with
    | true => rfl
    | false => simp only [grMany, hs, Bool.and_false] at hG; simp at hG
  have e : grMany n s = (n + s - 1) / s := by simp [grMany, hsr.1, hsr.2]
  obtain ⟨n1, n8⟩ := inR_iff.1 hsr.1
  obtain ⟨s1, s8⟩ := inR_iff.1 hsr.2
  obtain ⟨N, rfl⟩ := Int.eq_ofNat_of_zero_le (show 0 ≤ n by omega)
  obtain ⟨S, rfl⟩ := Int.eq_ofNat_of_zero_le (show 0 ≤ s by omega)
  have eG : G = (N + S - 1) / S := by
    have h5 : ((N : Int) + S - 1) = ((N + S - 1 : Nat) : Int) := by omega
    rw [e, h5, ← Int.natCast_ediv] at hG
    exact_mod_cast hG.symm
  have S1 : 1 ≤ S := by omega
  have hgs : ∀ g, g < G → g * S < N := fun g hg => by
    have h6 : (g + 1) * S ≤ N + S - 1 := by
      have h7 : (g + 1) * S ≤ (N + S - 1) / S * S := Nat.mul_le_mul_right _ (by omega)
      exact Nat.le_trans h7 (Nat.div_mul_le_self _ _)
    rw [Nat.add_mul] at h6
    omega
  have hkG : ∀ k, k < N → k / S < G := fun k hk => by
    rw [eG, Nat.div_lt_iff_lt_mul (by omega)]
    have h8 := Nat.div_add_mod (N + S - 1) S
    have h9 := Nat.mod_lt (N + S - 1) (show 0 < S by omega)
    have h10 : (N + S - 1) / S * S = S * ((N + S - 1) / S) := Nat.mul_comm _ _
    omega
  obtain ⟨w1, w2, w3⟩ := memOk_iff.1 h3
  exact ⟨N, S, G, rfl, rfl, hG, by omega, by omega, S1, by omega, x1, x2, fun x hx' => by
    obtain ⟨g, rfl, hg⟩ := hx x hx'
    exact ⟨g, rfl, hgs g hg, by omega⟩, grSch_ok (by omega) S1 hkG hc, h1, w1, w2, w3⟩

def IgRel (w : World) (n mg cb : Nat) (A : Option Addr) (ca : Nat) (l : List Cd) (ob : Nat) (ga : Nat → Nat) (sch : Nat → List Nat) (c : Cw) (T : Nat) (kv : Value) (wr : World) : Prop :=
  ∃ (i : Nat) (z : Gm), i ≤ T ∧ kv = .int .i64 i ∧ CS (fun _ => True) wr w.heap.size n mg cb A ca l ob ga z (runC l sch c i) ∧ Below w.heap.size w wr

set_option maxRecDepth 100000 in
set_option maxHeartbeats 8000000 in
theorem iRunGroups_c (A M X : Option Addr) (ca cm cx : Nat) (l : List Cd) (n s : Int) (m xs : List Int) (w : World) (hA : RdC w w.heap.size A l) (hM : RdI w w.heap.size M m) (hX : RdI w w.heap.size X xs) (hl : l.length ≤ 1000000000) (hml : m.length ≤ 1000000000) (hxl : xs.length ≤ 1000000000) :
    Calls Try.prog 12 #[.slice A l.length ca, .int .i64 n, .int .i64 s, .slice M m.length cm, .slice X xs.length cx] w (GmP w (groupsM l n s m xs)) := by
  have HCR := Lib.hid (canRun_c A M ca cm l n m w hA hM hl hml)
  have HA := Lib.hid hA
  have HX := Lib.hid hX
  cases hlo : lockOk l n m with
  | false =>
    have HV := Lib.hid (show groupsM l n s m xs = [] by simp [groupsM, groupsOk, hlo])
    go_enter Try.func12, Try.ntmps12
    go_wp2_with fail
    refine HCR.out.mono ?_
    rintro e w1 ⟨rfl, b1⟩
    rw [hlo]
    have HB := Lib.hid b1
    clear b1
    go_wp2
    go_ret
    refine ⟨none, 0, by rw [HV.out]; rfl, .inl ?_, HB.out⟩
    first | exact ⟨by rw [HV.out]; rfl, HV.out⟩ | exact ⟨by rw [HV.out]; rfl, HV.out, fun _ => rfl⟩
  | true =>
    have hgb := grMany_bd n s
    cases hs : inR s 1 8 with
    | false =>
      have HV := Lib.hid (show groupsM l n s m xs = [] by
        have e : grMany n s = -1 := by simp [grMany, hs]
        have : ordOk xs (grMany n s) = false := by rw [e]; simp [ordOk, inR]
        simp [groupsM, groupsOk, this])
      go_enter Try.func12, Try.ntmps12
      go_wp2_with fail
      refine HCR.out.mono ?_
      rintro e w1 ⟨rfl, b1⟩
      rw [hlo]
      have HB := Lib.hid b1
      clear b1
      go_wp2_with fail
      refine (isLanes_c s w1).mono ?_
      rintro e w2 ⟨rfl, rfl⟩
      rw [hs]
      go_wp2
      go_ret
      exact ⟨none, 0, by rw [HV.out]; rfl, .inl ⟨by rw [HV.out]; rfl, HV.out⟩, HB.out⟩
    | true =>
      cases ho : ordOk xs (grMany n s) with
      | false =>
        have HV := Lib.hid (show groupsM l n s m xs = [] by simp [groupsM, groupsOk, ho])
        go_enter Try.func12, Try.ntmps12
        go_wp2_with fail
        refine HCR.out.mono ?_
        rintro e w1 ⟨rfl, b1⟩
        rw [hlo]
        have HB := Lib.hid b1
        have hX1 := (hX.below b1).more b1.size
        clear b1
        go_wp2_with fail
        refine (isLanes_c s w1).mono ?_
        rintro e w2 ⟨rfl, rfl⟩
        rw [hs]
        go_wp2_with fail
        refine (iGroupsMany_c n s w1).mono ?_
        rintro e w2 ⟨rfl, rfl⟩
        generalize hgm : grMany n s = gm at *
        go_wp2_with fail
        refine (iOrderValid_c X cx xs gm w1 hX1 hxl).mono ?_
        rintro e w2 ⟨rfl, hx⟩
        rw [ho]
        have HB2 := Lib.hid (below_trans HB.out (Nat.le_refl _) hx.below)
        clear hx
        go_wp2
        go_ret
        exact ⟨none, 0, by rw [HV.out]; rfl, .inl ⟨by rw [HV.out]; rfl, HV.out⟩, HB2.out⟩
      | true =>
        have hok : groupsOk l n s m xs = true := by simp [groupsOk, hlo, ho]
        obtain ⟨N, S, G, rfl, rfl, hG, N1, N8, S1, S8, x1, x40, hxs, hsch, hp, hw, hm1, hm32⟩ := groups_in hok
        have HV := Lib.hid (show groupsM l N S m xs = (runE l (grSch N S xs) (Cw.start N m)).mem by simp [groupsM, hok])
        have h0 : CwOk l N (Cw.start N m) := CwOk.start hw
        have hn0 := start_nrm (l := l) N1 m
        obtain ⟨T1, T2, T3⟩ := run_T hp N8 hsch h0 hn0
        have HT1 := Lib.hid T1
        have HT2 := Lib.hid T2
        have HRO := Lib.hid (fun i => run_ok' hp N8 hsch h0 hn0 i)
        have HXS := Lib.hid hxs
        have HRE : Hid (runE l (grSch N S xs) (Cw.start N m) = runC l (grSch N S xs) (Cw.start N m) (endT l (grSch N S xs) (Cw.start N m))) := Lib.hid rfl
        have hTb : endT l (grSch N S xs) (Cw.start N m) ≤ 3200000 := by
          have : xs.length * 80000 ≤ 40 * 80000 := Nat.mul_le_mul_right _ x40
          omega
        have hc0 : runC l (grSch N S xs) (Cw.start N m) 0 = Cw.start N m := rfl
        have HC0 := Lib.hid hc0
        have hmc : M = none → cm = 0 := fun e => by
          obtain ⟨b, off, e2, _⟩ := hM.2 (by omega)
          rw [e] at e2; cases e2
        have HMC := Lib.hid hmc
        clear hok hxs hsch h0 hn0 T1 T2 T3 hc0 hw hmc
        have HSE := Lib.hid (fun i => show runC l (grSch N S xs) (Cw.start N m) (i + 1) = stepG l (runC l (grSch N S xs) (Cw.start N m) i) (grSch N S xs i) from rfl)
        have HGS := Lib.hid (fun i => show grSch N S xs i = grL N S (xs.getD (i % xs.length) 0).toNat from rfl)
        generalize hTe : endT l (grSch N S xs) (Cw.start N m) = T at *
        clear hTe
        generalize grSch N S xs = sch at *
        go_enter Try.func12, Try.ntmps12
        go_wp2_with fail
        refine HCR.out.mono ?_
        rintro e w1 ⟨rfl, b1⟩
        rw [hlo]
        have hX1 := (hX.below b1).more b1.size
        have hA1 := (hA.below b1).more b1.size
        have hM1 := (hM.below b1).more b1.size
        have HB1 := Lib.hid b1
        clear b1 hlo
        go_wp2_with fail
        refine (isLanes_c S w1).mono ?_
        rintro e w2 ⟨rfl, rfl⟩
        rw [hs]
        go_wp2_with fail
        refine (iGroupsMany_c N S w1).mono ?_
        rintro e w2 ⟨rfl, rfl⟩
        generalize hgm : grMany (N : Int) (S : Int) = gm at *
        clear hgm hG
        go_wp2_with fail
        refine (iOrderValid_c X cx xs gm w1 hX1 hxl).mono ?_
        rintro e w2 ⟨rfl, hx⟩
        rw [ho]
        have hX2 := (hX1.below hx.below).more hx.size
        have hA2 := (hA1.below hx.below).more hx.size
        have hM2 := (hM1.below hx.below).more hx.size
        have HB2 := Lib.hid (below_trans HB1.out (Nat.le_refl _) hx.below)
        clear hx ho HB1 hX1 hA1 hM1
        go_wp2_with fail
        refine (newCrowd_c M cm m N w2 hM2 ⟨N1, N8⟩ ⟨hm1, hm32⟩ HMC.out).mono ?_
        rintro e w3 ⟨z, rfl, hC, b3⟩
        have hs3 := b3.size
        have hxA := Ext.alloc w3 (.cells #[.slice (some ⟨z.lb, 0, none⟩) N z.lc, .slice (some ⟨z.mb, 0, none⟩) m.length z.mc] 58)
        have hNA := heap_alloc_new w3 (.cells #[.slice (some ⟨z.lb, 0, none⟩) N z.lc, .slice (some ⟨z.mb, 0, none⟩) m.length z.mc] 58)
        have b4 := b3.alloc b3.size (.cells #[.slice (some ⟨z.lb, 0, none⟩) N z.lc, .slice (some ⟨z.mb, 0, none⟩) m.length z.mc] 58)
        have hX4 := (hX2.below b4).more b4.size
        have hA4 := (hA2.below b4).more b4.size
        have HC4 := Lib.hid (hC.ext hxA)
        have HB4 := Lib.hid (below_trans HB2.out (Nat.le_refl _) b4)
        have HN4 := Lib.hid hNA
        have hcb : w.heap.size ≤ w3.heap.size := by have := HB2.out.size; omega
        have hw2 : w.heap.size ≤ w2.heap.size := HB2.out.size
        clear hxA hNA b3 b4 hC hX2 hA2 hM2 hM hX hA HB2 hs3
        go_wp2_with fail
        generalize w3.alloc (.cells #[.slice (some ⟨z.lb, 0, none⟩) N z.lc, .slice (some ⟨z.mb, 0, none⟩) m.length z.mc] 58) = w4 at *
        generalize w3.heap.size = cb at *
        refine (newMachine_c A ca l w4 hA4 hp).mono ?_
        rintro e w5 ⟨mg, ob, ga, rfl, hmk, b5⟩
        have hX5 := (hX4.below b5).more b5.size
        have hs5 := b5.size
        have hC5 := HC4.out.ext (Ext.of_below b5)
        have hN5 := (Ext.of_below b5).heap_ HN4.out
        have HB5 := Lib.hid (below_trans HB4.out (Nat.le_refl _) b5)
        have HCS : Hid (CS (fun _ => True) w5 w.heap.size N mg cb A ca l ob ga z (runC l sch (Cw.start N m) 0)) := Lib.hid (by
          rw [HC0.out]
          have hr := HRO.out 0
          rw [HC0.out] at hr
          have hC6 : CM (fun _ => True) w5 w.heap.size N z (Cw.start N m) := ⟨OR.mono hC5.row hw2, fun k hk => OR.mono (hC5.regs k hk) hw2, fun k hk => OR.mono (hC5.turns k hk) hw2, OR.mono hC5.mem hw2, hC5.rm, hC5.rr, hC5.tm, hC5.tr, hC5.tt, trivial, trivial, fun _ _ => trivial, fun _ _ _ _ => trivial, fun _ _ => trivial⟩
          have hB4s := HB4.out.size
          exact ⟨⟨hmk.blk, by have := hmk.gB; omega, OR.mono hmk.own hB4s, fun p hp' ho' => ⟨by have := (hmk.bks p hp' ho').1; omega, (hmk.bks p hp' ho').2⟩, HA.out.below HB5.out⟩, hC6, hr.1, hN5, hcb, HB5.out.size⟩)
        clear b5 hC5 hN5 HC4 HN4 HB4 hX4 hA4 hmk hs5 hw2 hcb
        have hc0m : (Cw.start N m).mem.length = m.length := rfl
        generalize Cw.start N m = c0 at *
        have HCM := Lib.hid hc0m
        clear hc0m
        go_wp2_with fail
        go_loopw [13] (fun kv wr => IgRel w N mg cb A ca l ob ga sch c0 T kv wr) (fun kv _ => T - (intOf kv).toNat)
        case atStart => exact ⟨0, z, Nat.zero_le _, rfl, HCS.out, HB5.out⟩
        case round =>
          obtain ⟨i, zi, hi, rfl, hCi, hb⟩ := hrel
          have HCi := Lib.hid hCi
          have HBi := Lib.hid hb
          have hXr := (HX.out.below hb).more hb.size
          clear HCS HB5 hCi hb hX5
          by_cases hlt : i < T
          · have hov := HT2.out i hlt
            have hmod : i % xs.length < xs.length := Nat.mod_lt _ (by omega)
            obtain ⟨xb, xo, x, rfl, hxB, hx, x0⟩ := hXr.at_ hmod
            obtain ⟨g, rfl, hg1, hg8⟩ := HXS.out x (List.mem_of_getElem? hx)
            have hgd : grL N S (xs.getD (i % xs.length) 0).toNat = grL N S g := by
              rw [List.getD_eq_getElem?_getD, hx]; simp
            have HGD := Lib.hid ((HGS.out i).trans hgd)
            have hrem0 : ∀ q, i % xs.length = q → ((i : Int).tmod (xs.length : Int)) = (q : Int) := fun q h => by rw [← h]; rfl
            have hlen0 : ((xs.length : Int) == 0) = false := beq_eq_false_iff_ne.2 (by omega)
            clear hgd hx
            generalize hq : i % xs.length = im at *
            have hrem := hrem0 im rfl
            have hmodI : (im : Int) < (xs.length : Int) := by omega
            clear hrem0 hq
            go_wp2_with fail
            refine (isOver_c HCi.out hp N8).mono ?_
            rintro e w6 ⟨rfl, hx6⟩
            rw [hov]
            have x0' := hx6.cell x0
            have HC6 := Lib.hid (HCi.out.ext hx6)
            have HB6 := Lib.hid (HBi.out.trans (hx6.below.mono (by have := HBi.out.size; exact this)))
            clear hx6 hov x0
            have hgs8 : g * S ≤ 8 := by omega
            go_wp2_with fail
            refine (igroupMask_c N S g w6 N8 S8 hgs8 hg8).mono ?_
            rintro e w7 ⟨rfl, rfl⟩
            have HML := Lib.hid (gMask_lanes N S g)
            have hmlt := gMask_lt N8 hgs8 (n := N) (s := S) (g := g)
            have HMN := Lib.hid (fun k (hk : k ∈ lanesOf (gMask N S g)) => ((grL_mem N8).1 (by rw [← gMask_lanes]; exact hk)).2.2)
            generalize gMask N S g = gmk at *
            go_wp2_with fail
            refine (least_c HC6.out hp N8 hmlt HMN.out).mono ?_
            rintro e w8 ⟨rfl, hx8⟩
            have HC8 := Lib.hid (HC6.out.ext hx8)
            have HB8 := Lib.hid (HB6.out.trans (hx8.below.mono (by have := HB6.out.size; exact this)))
            have hmk : maskL (amongL l (runC l sch c0 i) (lanesOf gmk)) < 256 := maskL_lt (fun k hk => (lanesOf_mem.1 (among_sub hk).1).1)
            have HMK := Lib.hid (fun k (hk : k ∈ lanesOf (maskL (amongL l (runC l sch c0 i) (lanesOf gmk)))) => HMN.out k (by rw [lanes_among] at hk; exact (among_sub hk).1))
            have hgq : runC l sch c0 (i + 1) = passC l ((lanesOf (maskL (amongL l (runC l sch c0 i) (lanesOf gmk)))).foldl (stepIf l) (runC l sch c0 i)) := by rw [← stepG_eq, HML.out, ← HGD.out]; exact HSE.out i
            have HGQ := Lib.hid hgq
            have HMLN : Hid (1 ≤ (runC l sch c0 i).mem.length ∧ (runC l sch c0 i).mem.length ≤ 32) := Lib.hid (by have h1 := (HRO.out i).2.2; rw [HCM.out] at h1; omega)
            clear hx8 hgq x0'
            generalize maskL (amongL l (runC l sch c0 i) (lanesOf gmk)) = mk at *
            go_wp2_with fail
            refine (stepAll_c HC8.out hp N8 (show mk < 65536 by omega) HMK.out HMLN.out).mono ?_
            rintro e w9 ⟨rfl, z9, hC9, hz9, hst9⟩
            have HC9 := Lib.hid hC9
            have HB9 := Lib.hid (HB8.out.trans hst9.bel)
            clear hC9 hz9 hst9
            go_wp2
            go_roundw
            case rel => exact ⟨i + 1, z9, by omega, by go_num, by rw [HGQ.out]; exact HC9.out, HB9.out⟩
            case measure => simp [intOf]; omega
          · obtain rfl : i = T := by omega
            have hov := HT1.out
            go_wp2_with fail
            refine (isOver_c HCi.out hp N8).mono ?_
            rintro e w6 ⟨rfl, hx6⟩
            rw [hov]
            have HC6 := Lib.hid (HCi.out.ext hx6)
            have HB6 := Lib.hid (HBi.out.trans (hx6.below.mono (by have := HBi.out.size; exact this)))
            obtain ⟨-, c1⟩ := HC6.out.cells
            clear hx6 hov
            have hme := (HRO.out i).2.2
            rw [HCM.out] at hme
            rw [hme] at c1
            have HME := Lib.hid hme
            clear hme
            go_wp2
            go_ret
            have e : (groupsM l N S m xs).length = m.length := by rw [HV.out, HRE.out, HME.out]
            refine ⟨some ⟨zi.mb, 0, none⟩, zi.mc, by rw [e]; rfl, .inr ?_, HB6.out⟩
            rw [HV.out, HRE.out, HME.out]
            have h1 := HC6.out.cm.mem
            rw [HME.out] at h1
            exact h1

end Go.Proofs.Ytelbfeidpcojmaa
