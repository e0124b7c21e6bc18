/- Part 15 of what the claim needs. -/
import Derived.Test.YtelbfeidpcojmaaGreatSa4
import Derived.Test.YtelbfeidpcojmaaGreatSa8
import Derived.Test.YtelbfeidpcojmaaGreatSa11
import Derived.Test.YtelbfeidpcojmaaGreatSa12
import Derived.Test.YtelbfeidpcojmaaGreatSa14
namespace Go.Proofs.YtelbfeidpcojmaaGreat
open Go.RowKit
set_option linter.unusedVariables false
set_option linter.unusedSimpArgs false

theorem CM.app {w w' : World} {B n b2 k c2 : Nat} {z : Gm} {c : Cw} {A : Option Addr} {xs : List Value} (h : CM (fun _ => True) w B n z c) (ht : OR w b2 78 2 A k c2 xs) (hg : w.grownBy w' (Value.ownBlock (.slice A k c2))) : CM (fun _ => True) w' B n z c :=
  ⟨OR.kept h.row hg (own_sep h.row ht (by decide)), fun k hk => OR.kept (h.regs k hk) hg (own_sep (h.regs k hk) ht (by decide)), fun k hk => OR.kept (h.turns k hk) hg (own_sep (h.turns k hk) ht (by decide)), OR.kept h.mem hg (own_sep h.mem ht (by decide)), h.rm, h.rr, h.tm, h.tr, h.tt, trivial, trivial, fun _ _ => trivial, fun _ _ _ _ => trivial, fun _ _ => trivial⟩
theorem blk_app {w w' : World} {b2 k c2 g : Nat} {A : Option Addr} {xs : List Value} {cs : Array Value} {t : TypeId} (ht : OR w b2 78 2 A k c2 xs) (hg : w.grownBy w' (Value.ownBlock (.slice A k c2))) (hb : w.heap[g]? = some (.cells cs t (0, 0))) (hne : 78 ≠ t) : w'.heap[g]? = some (.cells cs t (0, 0)) :=
  (hg.block g (lt_of_block hb) (fun e => own_ne ht hb hne e.symm)).trans hb
theorem SC.app {w w' : World} {B n cb b2 k c2 : Nat} {l : List Cd} {z : Gm} {c : Cw} {A : Option Addr} {xs : List Value} (h : SC w B n cb l z c) (ht : OR w b2 78 2 A k c2 xs) (hg : w.grownBy w' (Value.ownBlock (.slice A k c2))) : SC w' B n cb l z c :=
  ⟨h.cm.app ht hg, h.ok, blk_app ht hg h.blk (by decide), h.cB, Nat.le_trans h.hB hg.size⟩

def SlP (w : World) (R : List Int) (e : Ending) (w' : World) : Prop :=
  ∃ (L : Option Addr) (n lc : Nat) (A : Option Addr) (c : Nat) (T : Value), e = .returned (.tuple #[.agg #[.slice L n lc, .slice A R.length c], T]) ∧ OI w' w.heap.size A R.length c R ∧ Below w.heap.size w w'
def SlRel (w : World) (n rb cb : Nat) (l : List Cd) (sch : Nat → List Nat) (c : Cw) (T : Nat) (g : Nat) (tv : Value) (wr : World) : Prop :=
  ∃ (i : Nat) (z : Gm) (At : Option Addr) (ct : Nat) (bs : List (Nat × Nat)), i + g = T ∧ bs.length ≤ i ∧ tv = .slice At bs.length ct ∧ OR wr w.heap.size 78 2 At bs.length ct (beatsV bs) ∧ SC wr w.heap.size n cb l z (runC l sch c i) ∧ Below w.heap.size w wr ∧ wr.heap[rb]? = some (.cells #[.slice none 0 0, .slice none 0 0] 67 (0, 0))
def SiRel (w w0 : World) (n cb : Nat) (l : List Cd) (z : Gm) (c : Cw) (lo mk cnt : Nat) (kv : Value) (wx : World) : Prop :=
  ∃ (t : Nat) (z' : Gm), t ≤ cnt ∧ kv = .int .i64 t ∧ SC wx w.heap.size n cb l z' (runIn l c lo mk t) ∧ SmG z' z ∧ StC (fun _ => True) w.heap.size w0 wx

set_option maxRecDepth 100000 in
set_option maxHeartbeats 16000000 in
theorem sl17Run_c (A M : Option Addr) (ca cm : Nat) (l : List Cd) (N : Nat) (m : List Int) (w : World) (hA : RdC w w.heap.size A l) (hM : RdI w w.heap.size M m)
    (N1 : 1 ≤ N) (N8 : N ≤ 8) (hp : pv l = true) (hw : wordsOk m) (hm1 : 1 ≤ m.length) (hm32 : m.length ≤ 32) :
    Calls Tryz.prog 62 #[.slice A l.length ca, .int .i64 N, .slice M m.length cm] w (SlP w (runE l (allSch N) (Cw.start N m)).mem) := by
  have HA := Lib.hid hA
  have hsch := allSch_ok N8
  have hl40 := (pv_iff.1 hp).1
  have h0 : CwOk l N (Cw.start N m) := CwOk.start hw
  have hn0 := start_nrm (l := l) N1 m
  obtain ⟨T1, T2, T3⟩ := run_T hp N8 hsch h0 hn0
  have HT1 := Lib.hid T1
  have HT3 : endT l (allSch N) (Cw.start N m) ≤ 80000 := by omega
  have HT2 := Lib.hid T2
  have HRO := Lib.hid (fun i => run_ok' hp N8 hsch h0 hn0 i)
  have HRE : Hid (runE l (allSch N) (Cw.start N m) = runC l (allSch N) (Cw.start N m) (endT l (allSch N) (Cw.start N m))) := Lib.hid rfl
  have HDO := Lib.hid (fun i => done_over (run_ok' hp N8 hsch h0 hn0 i).1 (run_ok' hp N8 hsch h0 hn0 i).2.1)
  have hc0 : runC l (allSch N) (Cw.start N m) 0 = Cw.start N m := rfl
  have HC0 := Lib.hid hc0
  have HNC := Lib.hid (fun W a => sNewCrowd_c M cm m N W a ⟨N1, N8⟩ ⟨hm1, hm32⟩ hw)
  have HAP := Lib.hid (fun i => all_part N8 i)
  clear hsch h0 hn0 T1 T2 T3 hc0 hw
  have HSE := Lib.hid (fun i => show runC l (allSch N) (Cw.start N m) (i + 1) = stepG l (runC l (allSch N) (Cw.start N m) i) (allSch N i) from rfl)
  generalize hTe : endT l (allSch N) (Cw.start N m) = T at *
  clear hTe
  generalize hse : allSch N = sch at *
  clear hse
  have hX0 := Ext.alloc w (.cells #[.slice none 0 0, .slice none 0 0] 67)
  have hN0 := heap_alloc_new w (.cells #[.slice none 0 0, .slice none 0 0] 67)
  have hsz0 : (w.alloc (.cells #[.slice none 0 0, .slice none 0 0] 67)).heap.size = w.heap.size + 1 := by simp
  have hX1 := Ext.alloc (w.alloc (.cells #[.slice none 0 0, .slice none 0 0] 67)) (.cells #[] 78)
  have hOT := OR.lit (w.alloc (.cells #[.slice none 0 0, .slice none 0 0] 67)) (w.alloc (.cells #[.slice none 0 0, .slice none 0 0] 67)).heap.size 78 2 0 #[] (Nat.le_refl _) (by omega) rfl
  rw [hsz0] at hOT
  have hX01 := hX0.trans hX1
  have hR1 := hX1.heap_ hN0
  go_enter Tryz.func62, Tryz.ntmps62
  go_wp2_with fail
  generalize hw1e : (w.alloc (.cells #[.slice none 0 0, .slice none 0 0] 67)).alloc (.cells #[] 78) = w1 at *
  have HB1 := Lib.hid hX01.below
  have hM1 := (hM.below HB1.out).more HB1.out.size
  have HOT := Lib.hid (OR.mono hOT (show w.heap.size ≤ w.heap.size + 1 by omega))
  have HR1 := Lib.hid hR1
  clear hX0 hN0 hsz0 hX1 hX01 hR1 hOT hw1e
  refine (HNC.out w1 hM1).mono ?_
  rintro e w3 ⟨z, rfl, hC, b3⟩
  have hs3 := b3.size
  have hxA := Ext.alloc w3 (.cells #[.slice (some ⟨z.lb, 0, none⟩) N z.lc, .slice (some ⟨z.mb, 0, none⟩) m.length z.mc] 67)
  have hNA := heap_alloc_new w3 (.cells #[.slice (some ⟨z.lb, 0, none⟩) N z.lc, .slice (some ⟨z.mb, 0, none⟩) m.length z.mc] 67)
  have b4 := b3.alloc b3.size (.cells #[.slice (some ⟨z.lb, 0, none⟩) N z.lc, .slice (some ⟨z.mb, 0, none⟩) m.length z.mc] 67)
  have hC4 := hC.ext hxA
  have HB4 := Lib.hid (below_trans HB1.out (Nat.le_refl _) b4)
  have HOT4 := Lib.hid (HOT.out.below b4 (Nat.le_refl _))
  have HR4 := Lib.hid ((Ext.of_below b4).heap_ HR1.out)
  have hw1 : w.heap.size ≤ w1.heap.size := HB1.out.size
  have HSC : Hid (SC (w3.alloc (.cells #[.slice (some ⟨z.lb, 0, none⟩) N z.lc, .slice (some ⟨z.mb, 0, none⟩) m.length z.mc] 67)) w.heap.size N w3.heap.size l z (runC l sch (Cw.start N m) 0)) := Lib.hid (by
    rw [HC0.out]
    have hr := HRO.out 0
    rw [HC0.out] at hr
    exact ⟨⟨OR.mono hC4.row hw1, fun k hk => OR.mono (hC4.regs k hk) hw1, fun k hk => OR.mono (hC4.turns k hk) hw1, OR.mono hC4.mem hw1, hC4.rm, hC4.rr, hC4.tm, hC4.tr, hC4.tt, trivial, trivial, fun _ _ => trivial, fun _ _ _ _ => trivial, fun _ _ => trivial⟩, hr.1, hNA, by omega, HB4.out.size⟩)
  clear hxA hNA b3 b4 hC hC4 hM hA hs3 hM1 HB1 hw1 HOT HR1
  have hc0m : (Cw.start N m).mem.length = m.length := rfl
  generalize Cw.start N m = c0' at *
  have HCM := Lib.hid hc0m
  clear hc0m
  go_wp2_with fail
  generalize w3.alloc (.cells #[.slice (some ⟨z.lb, 0, none⟩) N z.lc, .slice (some ⟨z.mb, 0, none⟩) m.length z.mc] 67) = w4' at *
  generalize w3.heap.size = cb at *
  go_loopg [8] T (fun g tv wr => SlRel w N w.heap.size cb l sch c0' T g tv wr)
  case atStart => exact ⟨0, z, _, _, [], Nat.zero_add _, Nat.le_refl _, rfl, HOT4.out, HSC.out, HB4.out, HR4.out⟩
  case round =>
    obtain ⟨i, zi, At, ct, bs, hi, hbi, rfl, hTi, hCi, hb, hRi⟩ := hrel
    have HCi := Lib.hid hCi
    have HBr := Lib.hid hb
    have HTi := Lib.hid hTi
    have HRi := Lib.hid hRi
    have hbs80 : bs.length ≤ 80000 := by omega
    clear HSC HB4 HOT4 HR4 hb hTi hRi
    have hme0 := (HRO.out i).2.2
    rw [HCM.out] at hme0
    have HME0 := Lib.hid hme0
    have c0 : wr.cell? ⟨cb, 0, none⟩ = some (.slice (some ⟨zi.lb, 0, none⟩) N zi.lc) := cell_of_heap hCi.blk 0
    have c1 : wr.cell? ⟨cb, 1, none⟩ = some (.slice (some ⟨zi.mb, 0, none⟩) m.length zi.mc) := (cell_of_heap hCi.blk 1).trans (by rw [hme0]; rfl)
    have hLD := Lib.hid (sl7Done_c (ca := ca) (A := A) hCi.cm hCi.ok N8)
    unfold cwV at hLD
    rw [hme0, HDO.out i] at hLD
    clear hCi hme0
    by_cases hlt : i < T
    · have hov := HT2.out i hlt
      rw [hov] at hLD
      have hll := least_lt (HRO.out i).1 (HRO.out i).2.1 hov
      have HGD := Lib.hid (show runC l sch c0' (i + 1) = passC l (runIn l (runC l sch c0' i) 0 (relM l (runC l sch c0' i) 0 N) N) from by rw [HSE.out i, HAP.out i]; exact runIn_step 0 N)
      go_wp2_with fail
      refine (hLD.out).mono ?_
      rintro e w5a ⟨rfl, hx6⟩
      have HC5 := Lib.hid (HCi.out.ext hx6)
      have HB5 := Lib.hid (HBr.out.trans (hx6.below.mono (by have := HBr.out.size; exact this)))
      have HT5 := Lib.hid (HTi.out.ext hx6)
      have HR5 := Lib.hid (hx6.heap_ HRi.out)
      replace c0 := hx6.cell c0
      replace c1 := hx6.cell c1
      clear hx6 hLD HCi HBr HTi HRi
      generalize hce : runC l sch c0' i = ci at *
      have hLL := Lib.hid (sl17Least_c (ca := ca) (A := A) HC5.out.cm HC5.out.ok N8 hp 0 N zi.lc 0 rfl (by omega) (some ⟨zi.mb, 0, none⟩) m.length zi.mc)
      have hmk8 := relM_lt (l := l) (c := ci) (lo := 0) (t := N) N8
      have HGO := Lib.hid (fun t (ht : t < N) (hb : (relM l ci 0 N).testBit t = true) => show goesL l (ci.lane t) = true by rw [relM_bit ht, Nat.zero_add] at hb; simp only [Bool.and_eq_true] at hb; exact hb.1)
      have HOK0 := Lib.hid HC5.out.ok
      generalize hmke : relM l ci 0 N = mk at *
      generalize hate : leastP l ci (partL 0 N) = at' at *
      go_wp2_with fail
      refine (hLL.out).mono ?_
      rintro e w6' ⟨rfl, hx6⟩
      have HC6 := Lib.hid (HC5.out.ext hx6)
      have HB6' := Lib.hid (HB5.out.trans (hx6.below.mono (by have := HB5.out.size; exact this)))
      have HT6 := Lib.hid (HT5.out.ext hx6)
      have HR6 := Lib.hid (hx6.heap_ HR5.out)
      replace c0 := hx6.cell c0
      replace c1 := hx6.cell c1
      have hAr := HA.out.below HB6'.out
      obtain ⟨ab, ao, x, hAE, habB, hx, a0, -, -, -⟩ := hAr.at_ hll
      subst hAE
      have hatI : (at' : Int) < (l.length : Int) := by omega
      clear hx6 hLL HC5 HB5 HT5 HR5 hmke hate hx hAr
      by_cases h12 : x.op = 12
      · have ht12 : (x.op != 12) = false := by simp [h12]
        clear h12
        generalize hw6 : w6' = w6 at *
        clear hw6
        have HSC6 := HC6
        have HB6 := HB6'
        go_wp2
        go_loopw [12] (fun kv wr => SiRel w w6 N cb l zi ci 0 mk N kv wr) (fun kv _ => N - (intOf kv).toNat)
        case atStart => exact ⟨0, zi, Nat.zero_le _, rfl, HSC6.out, SmG.refl _, StC.refl _ _⟩
        case round =>
          obtain ⟨t, zt, ht, rfl, hCt, hzt, hst⟩ := hrel
          have HBt := Lib.hid (HB6.out.trans hst.bel)
          have HZT := Lib.hid hzt
          have HCt := Lib.hid hCt
          have HSTt := Lib.hid hst
          have hmet := (runIn_ok hp N8 HOK0.out (mk := mk) (lo := 0) (cnt := N) (by omega) t ht).2
          rw [HME0.out] at hmet
          have HME := Lib.hid hmet
          have HRL := Lib.hid (show (runIn l ci 0 mk t).lane (t) = ci.lane (t) by have h := runIn_lane (l := l) (c := ci) (lo := 0) (mk := mk) t t (Nat.le_refl _); simpa only [Nat.zero_add] using h)
          have HRI := Lib.hid (show runIn l ci 0 mk (t + 1) = if mk.testBit t then stepIf l (runIn l ci 0 mk t) (t) else runIn l ci 0 mk t by simp only [runIn, Nat.zero_add])
          have c0 : wr.cell? ⟨cb, 0, none⟩ = some (.slice (some ⟨zt.lb, 0, none⟩) N zt.lc) := cell_of_heap hCt.blk 0
          have c1 : wr.cell? ⟨cb, 1, none⟩ = some (.slice (some ⟨zt.mb, 0, none⟩) m.length zt.mc) := (cell_of_heap hCt.blk 1).trans (by rw [hmet]; rfl)
          clear hCt hzt hst hmet
          by_cases hlt : t < N
          · have htI : (t : Int) < (N : Int) := by omega
            have hkn : t < N := by omega
            cases hbt : mk.testBit t with
            | false =>
              rw [hbt] at HRI
              have hbit : (((mk : Int) / 2 ^ t).tmod 2 == 1) = false := by rw [bit_tm]; exact hbt
              go_wp2
              go_roundw
              case rel => exact ⟨t + 1, zt, by omega, by go_num, by rw [HRI.out]; exact HCt.out, HZT.out, HSTt.out⟩
              case measure => simp [intOf]; omega
            | true =>
              rw [hbt] at HRI
              have hbit : (((mk : Int) / 2 ^ t).tmod 2 == 1) = true := by rw [bit_tm]; exact hbt
              have hgo := HGO.out t hlt hbt
              rw [← HRL.out] at hgo
              have HOK := Lib.hid HCt.out.ok
              have HCr := Lib.hid HCt.out.cm
              obtain ⟨e0, e1, e2, e3⟩ := HCt.out.cm.cells hkn
              obtain ⟨hcbs, hcbm, hcbl⟩ := HCt.out.sep
              have hBW := HCt.out.hB
              have HBr := HBt
              have HMLN := HME
              generalize hce : runIn l ci 0 mk t = cj at *
              clear hce
              have hwt := (goes_pos hgo).1
              have hps := (goes_pos hgo).2
              have HSI := Lib.hid (show stepIf l cj (t) = stepAt l cj (t) by unfold stepIf; rw [hgo]; rfl)
              rw [hwt] at e3
              have hok5 := stepIf_ok hp N8 HOK.out hkn
              go_upto_region 11 with fail
              have hXd := Ext.drew wr
              have hCd := HCr.out.ext hXd
              have h4 := ((HOK.out.at_ hkn).2).four
              have hAd := (HA.out.below (HBr.out.trans (hXd.below.mono hBW))).more (Nat.le_trans HBr.out.size hXd.size)
              have hRd : RdI wr.drew wr.drew.heap.size (some ⟨zt.R t, 0, none⟩) (cj.lane t).regs := by
                have h := OR.reads (hCd.regs t hkn)
                unfold RdI
                rw [h4]
                exact h
              have hTd : RdI wr.drew wr.drew.heap.size (adr (zt.T t)) (cj.lane t).turns := OR.reads (hCd.turns t hkn)
              have hml := HMLN.out
              have HL6 := Lib.hid (l6Step_c (some ⟨ab, ao, none⟩) (some ⟨zt.R t, 0, none⟩) (adr (zt.T t)) ca (zt.RC t) (zt.TC t) l (cj.lane t) t w.heap.size zt.mb m.length zt.mc cj.mem wr.drew hAd hRd hTd (OI.nilc (hCd.turns t hkn)) (by have h := hCd.mem; rw [HME.out] at h; exact h) (by exact hBW) ⟨hm1, hm32⟩ ((HOK.out).words) hp ((HOK.out.at_ hkn).2) hwt hps (by omega))
              have HCd := Lib.hid hCd
              clear hCd hAd hRd hTd hXd h4 hml
              unfold lnV at HL6
              rw [hwt] at HL6
              go_wp2_with fail
              refine wp_region_held_drew (S := fun w' => w'.cell? ⟨cb, 0, none⟩ = some (.slice (some ⟨zt.lb, 0, none⟩) N zt.lc) ∧ w'.cell? ⟨cb, 1, none⟩ = some (.slice (some ⟨zt.mb, 0, none⟩) m.length zt.mc)) (by kernel_rfl) ⟨c0, c1⟩ (fun hHeld => ?_)
              refine wpAnyH_take (i := 0) (v := ?_) rfl (by decide +kernel) (by decide +kernel) (by decide +kernel) (fun _ _ _ h => h) (Or.inl ⟨by rfl, ?_⟩) (by assumption) ?_
              rotate_left
              · (intro w hSw; (try dsimp only at hSw); obtain ⟨s0, s1⟩ := hSw; (try dsimp only [List.getElem_toArray, List.getElem_cons_succ, List.getElem_cons_zero]); go_simp)
                try with_reducible rfl
              try simp only [List.getElem_toArray, List.getElem_cons_succ, List.getElem_cons_zero, Act.put, List.setIfInBounds_toArray, List.set_cons_zero, List.set_cons_succ]
              refine wpAnyH_take (i := 1) (v := ?_) rfl (by decide +kernel) (by decide +kernel) (by decide +kernel) (fun _ _ _ h => h) (Or.inl ⟨by rfl, ?_⟩) (by assumption) ?_
              rotate_left
              · (intro w hSw; (try dsimp only at hSw); obtain ⟨s0, s1⟩ := hSw; (try dsimp only [List.getElem_toArray, List.getElem_cons_succ, List.getElem_cons_zero]); go_simp)
                try with_reducible rfl
              try simp only [List.getElem_toArray, List.getElem_cons_succ, List.getElem_cons_zero, Act.put, List.setIfInBounds_toArray, List.set_cons_zero, List.set_cons_succ]
              refine wpAnyH_take (i := 2) (v := ?_) rfl (by decide +kernel) (by decide +kernel) (by decide +kernel) (fun _ _ _ h => h) (Or.inl ⟨by rfl, ?_⟩) (by assumption) ?_
              rotate_left
              · (intro w hSw; (try dsimp only at hSw); obtain ⟨s0, s1⟩ := hSw; (try dsimp only [List.getElem_toArray, List.getElem_cons_succ, List.getElem_cons_zero]); go_simp)
                try with_reducible rfl
              try simp only [List.getElem_toArray, List.getElem_cons_succ, List.getElem_cons_zero, Act.put, List.setIfInBounds_toArray, List.set_cons_zero, List.set_cons_succ]
              refine wpAnyH_take (i := 3) (v := ?_) rfl (by decide +kernel) (by decide +kernel) (by decide +kernel) (fun _ _ _ h => h) (Or.inl ⟨by rfl, ?_⟩) (by assumption) ?_
              rotate_left
              · (intro w hSw; (try dsimp only at hSw); obtain ⟨s0, s1⟩ := hSw; (try dsimp only [List.getElem_toArray, List.getElem_cons_succ, List.getElem_cons_zero]); go_simp)
                try with_reducible rfl
              try simp only [List.getElem_toArray, List.getElem_cons_succ, List.getElem_cons_zero, Act.put, List.setIfInBounds_toArray, List.set_cons_zero, List.set_cons_succ]
              refine wpAnyH_take (i := 4) (v := ?_) rfl (by decide +kernel) (by decide +kernel) (by decide +kernel) (fun _ _ _ h => h) (Or.inl ⟨by rfl, ?_⟩) (by assumption) ?_
              rotate_left
              · (intro w hSw; (try dsimp only at hSw); obtain ⟨s0, s1⟩ := hSw; (try dsimp only [List.getElem_toArray, List.getElem_cons_succ, List.getElem_cons_zero]); go_simp)
                try with_reducible rfl
              try simp only [List.getElem_toArray, List.getElem_cons_succ, List.getElem_cons_zero, Act.put, List.setIfInBounds_toArray, List.set_cons_zero, List.set_cons_succ]
              refine wpAnyH_take (i := 5) (v := ?_) rfl (by decide +kernel) (by decide +kernel) (by decide +kernel) (fun _ _ _ h => h) (Or.inl ⟨by rfl, ?_⟩) (by assumption) ?_
              rotate_left
              · (intro w hSw; (try dsimp only at hSw); obtain ⟨s0, s1⟩ := hSw; (try dsimp only [List.getElem_toArray, List.getElem_cons_succ, List.getElem_cons_zero]); go_simp)
                try with_reducible rfl
              try simp only [List.getElem_toArray, List.getElem_cons_succ, List.getElem_cons_zero, Act.put, List.setIfInBounds_toArray, List.set_cons_zero, List.set_cons_succ]
              refine wpAnyH_take (i := 6) (v := ?_) rfl (by decide +kernel) (by decide +kernel) (by decide +kernel) (fun _ _ _ h => h) (Or.inl ⟨by rfl, ?_⟩) (by assumption) ?_
              rotate_left
              · (intro w hSw; (try dsimp only at hSw); obtain ⟨s0, s1⟩ := hSw; (try dsimp only [List.getElem_toArray, List.getElem_cons_succ, List.getElem_cons_zero]); go_simp)
                try with_reducible rfl
              try simp only [List.getElem_toArray, List.getElem_cons_succ, List.getElem_cons_zero, Act.put, List.setIfInBounds_toArray, List.set_cons_zero, List.set_cons_succ]
              refine wpAnyH_take (i := 8) (v := ?_) rfl (by decide +kernel) (by decide +kernel) (by decide +kernel) (fun _ _ _ h => h) (Or.inl ⟨by rfl, ?_⟩) (by assumption) ?_
              rotate_left
              · (intro w hSw; (try dsimp only at hSw); obtain ⟨s0, s1⟩ := hSw; (try dsimp only [List.getElem_toArray, List.getElem_cons_succ, List.getElem_cons_zero]); go_simp)
                try with_reducible rfl
              try simp only [List.getElem_toArray, List.getElem_cons_succ, List.getElem_cons_zero, Act.put, List.setIfInBounds_toArray, List.set_cons_zero, List.set_cons_succ]
              refine wpAnyH_take (i := 9) (v := ?_) rfl (by decide +kernel) (by decide +kernel) (by decide +kernel) (fun _ _ _ h => h) (Or.inl ⟨by rfl, ?_⟩) (by assumption) ?_
              rotate_left
              · (intro w hSw; (try dsimp only at hSw); obtain ⟨s0, s1⟩ := hSw; (try dsimp only [List.getElem_toArray, List.getElem_cons_succ, List.getElem_cons_zero]); go_simp)
                try with_reducible rfl
              try simp only [List.getElem_toArray, List.getElem_cons_succ, List.getElem_cons_zero, Act.put, List.setIfInBounds_toArray, List.set_cons_zero, List.set_cons_succ]
              refine wpAnyH_take (i := 10) (v := ?_) rfl (by decide +kernel) (by decide +kernel) (by decide +kernel) (fun _ _ _ h => h) (Or.inl ⟨by rfl, ?_⟩) (by assumption) ?_
              rotate_left
              · (intro w hSw; (try dsimp only at hSw); obtain ⟨s0, s1⟩ := hSw; (try dsimp only [List.getElem_toArray, List.getElem_cons_succ, List.getElem_cons_zero]); go_simp)
                try with_reducible rfl
              try simp only [List.getElem_toArray, List.getElem_cons_succ, List.getElem_cons_zero, Act.put, List.setIfInBounds_toArray, List.set_cons_zero, List.set_cons_succ]
              refine wpAnyH_take (i := 11) (v := ?_) rfl (by decide +kernel) (by decide +kernel) (by decide +kernel) (fun _ _ _ h => h) (Or.inl ⟨by rfl, ?_⟩) (by assumption) ?_
              rotate_left
              · (intro w hSw; (try dsimp only at hSw); obtain ⟨s0, s1⟩ := hSw; (try dsimp only [List.getElem_toArray, List.getElem_cons_succ, List.getElem_cons_zero]); go_simp)
                try with_reducible rfl
              try simp only [List.getElem_toArray, List.getElem_cons_succ, List.getElem_cons_zero, Act.put, List.setIfInBounds_toArray, List.set_cons_zero, List.set_cons_succ]
              refine wpAnyH_ready (rs := [7]) (by kernel_rfl) (by simp) ?_
              refine AllReadyH.cons rfl (fun K hK => ?_) AllReadyH.nil
              try dsimp only [List.getElem_toArray, List.getElem_cons_succ, List.getElem_cons_zero]
              go_simp
              refine hK.out _ _ ?_ (fun hHeld2 => ?_)
              · exact hHeld
              clear hK K
              try simp only [List.getElem_toArray, List.getElem_cons_succ, List.getElem_cons_zero, Act.put, List.setIfInBounds_toArray, List.set_cons_zero, List.set_cons_succ]
              refine wpAnyH_ready (rs := [12]) (by kernel_rfl) (by simp) ?_
              refine AllReadyH.cons rfl (fun K hK => ?_) AllReadyH.nil
              try dsimp only [List.getElem_toArray, List.getElem_cons_succ, List.getElem_cons_zero]
              go_simp
              go_at_call 65
              refine (HL6.out).mono ?_
              rintro e w4 ⟨r, rc, t', tc, rfl, hL4, hM4, hg4⟩
              unfold lnV
              have hmb4 := (OR.base_le HCd.out.mem)
              have k0 := (cell_heap_eq (hg4.block cb (by exact hcbs) (fun e => hcbm (by injection e with e; exact e.symm))) 0).trans c0
              have k1 := (cell_heap_eq (hg4.block cb (by exact hcbs) (fun e => hcbm (by injection e with e; exact e.symm))) 1).trans c1
              try dsimp only
              refine hK.out _ _ ?_ (fun hHeld3 => ?_)
              · exact ⟨k0, k1⟩
              clear hK K hHeld2
              try simp only [List.getElem_toArray, List.getElem_cons_succ, List.getElem_cons_zero, Act.put, List.setIfInBounds_toArray, List.set_cons_zero, List.set_cons_succ]
              refine wpAnyH_ready (rs := [13]) (by kernel_rfl) (by simp) ?_
              refine AllReadyH.cons rfl (fun K hK => ?_) AllReadyH.nil
              try dsimp only [List.getElem_toArray, List.getElem_cons_succ, List.getElem_cons_zero]
              go_simp
              refine hK.out _ _ ?_ (fun hHeld4 => ?_)
              · exact hHeld3
              clear hK K hHeld3
              try simp only [List.getElem_toArray, List.getElem_cons_succ, List.getElem_cons_zero, Act.put, List.setIfInBounds_toArray, List.set_cons_zero, List.set_cons_succ]
              refine wpAnyH_ready (rs := [14]) (by kernel_rfl) (by simp) ?_
              refine AllReadyH.cons rfl (fun K hK => ?_) AllReadyH.nil
              have hnew := CM.lane_new HCd.out (by exact hBW) hkn HOK.out.len hL4 (by rw [HME.out]; exact hM4) ((simp1_len _ _ _ _).2) hg4
              have hth : w4.there zt.lb (t * 4) 4 := there4 HCd.out hg4 (by exact hBW) hkn
              refine (if_pos ?hwS).mpr ?_
              case hwS => rfl
              refine wp_store_mid _ _ _ rfl zt.lb (t * 4) _ rfl rfl hth (by kernel_rfl) (by simp [Value.oneCell']) ?_
              refine hK.out _ _ ?_ (fun hHeld5 => ?_)
              · exact ⟨(World.cell?_setCells_out _ _ _ _ _ (fun e _ => absurd e hcbl)).trans hHeld4.1, (World.cell?_setCells_out _ _ _ _ _ (fun e _ => absurd e hcbl)).trans hHeld4.2⟩
              clear hK K hHeld4 hHeld
              refine wpAnyH_done (by kernel_rfl) ?_ _
              have HC5 := Lib.hid (show CM (fun _ => True) _ w.heap.size N _ (stepAt l cj t) from hnew.1)
              have HST5 := Lib.hid hnew.2
              clear hnew hth hL4 hM4 hg4 k0 k1 hmb4
              rw [HSI.out] at hok5
              have HOK5 := Lib.hid hok5.1
              have HSC5 := Lib.hid ((HCt.out.ext (Ext.drew wr)).next HC5.out ⟨rfl, rfl, rfl, rfl⟩ HST5.out hok5.1 hok5.2)
              have HST6 := Lib.hid ((HSTt.out.trans (StC.of_ext (Ext.drew wr) hBW)).trans HST5.out)
              simp only [if_true] at HRI
              rw [HSI.out] at HRI
              clear hok5 hHeld5 e0 e1 e2 e3 HL6
              generalize w4.setCells _ _ _ = w5 at *
              go_wp2
              go_roundw
              case rel => exact ⟨t + 1, zt.put t r rc t' tc, by omega, by go_num, by rw [HRI.out]; exact HSC5.out, HZT.out, HST6.out⟩
              case measure => simp [intOf]; omega
          · obtain rfl : t = N := by omega
            have hnI : ¬ ((t : Int) < (t : Int)) := by omega
            have hLF := Lib.hid (sl7Free_c (ca := ca) (A := some ⟨ab, ao, none⟩) HCt.out.cm HCt.out.ok N8 HCt.out.hB)
            unfold cwV at hLF
            rw [HME.out] at hLF
            have HTx := Lib.hid (OR.byType HT6.out (fun g cs hg => HSTt.out.byt g cs _ (by decide) (by decide) hg))
            have HRx := Lib.hid (HSTt.out.byt _ _ _ (by decide) (by decide) HR6.out)
            go_wp2_with fail
            refine (hLF.out).mono ?_
            rintro e w7 ⟨rfl, hC7, hst7⟩
            have HS7 := Lib.hid (HCt.out.next hC7 (SmG.refl _) hst7 (HCt.out.ok.passC).1 (by rw [(HCt.out.ok.passC).2.2]))
            have HB7 := Lib.hid (HBt.out.trans hst7.bel)
            have HT7 := Lib.hid (OR.byType HTx.out (fun g cs hg => hst7.byt g cs _ (by decide) (by decide) hg))
            have HR7 := Lib.hid (hst7.byt _ _ _ (by decide) (by decide) HRx.out)
            clear hC7 hst7
            go_wp2
            go_roundg (T - (i + 1))
            case measure => omega
            case rel => exact ⟨i + 1, zt, _, _, bs, by first | omega | (simp; omega), by first | omega | (simp; omega), by first | rfl | simp, HT7.out, by rw [HGD.out]; exact HS7.out, HB7.out, HR7.out⟩
      · have ht12 : (x.op != 12) = true := by simp [h12]
        by_cases h14 : x.op = 14
        · have ht14 : (x.op != 14) = false := by simp [h14]
          clear h12 h14
          generalize hw6 : w6' = w6 at *
          clear hw6
          have HSC6 := HC6
          have HB6 := HB6'
          go_wp2
          go_loopw [12] (fun kv wr => SiRel w w6 N cb l zi ci 0 mk N kv wr) (fun kv _ => N - (intOf kv).toNat)
          case atStart => exact ⟨0, zi, Nat.zero_le _, rfl, HSC6.out, SmG.refl _, StC.refl _ _⟩
          case round =>
            obtain ⟨t, zt, ht, rfl, hCt, hzt, hst⟩ := hrel
            have HBt := Lib.hid (HB6.out.trans hst.bel)
            have HZT := Lib.hid hzt
            have HCt := Lib.hid hCt
            have HSTt := Lib.hid hst
            have hmet := (runIn_ok hp N8 HOK0.out (mk := mk) (lo := 0) (cnt := N) (by omega) t ht).2
            rw [HME0.out] at hmet
            have HME := Lib.hid hmet
            have HRL := Lib.hid (show (runIn l ci 0 mk t).lane (t) = ci.lane (t) by have h := runIn_lane (l := l) (c := ci) (lo := 0) (mk := mk) t t (Nat.le_refl _); simpa only [Nat.zero_add] using h)
            have HRI := Lib.hid (show runIn l ci 0 mk (t + 1) = if mk.testBit t then stepIf l (runIn l ci 0 mk t) (t) else runIn l ci 0 mk t by simp only [runIn, Nat.zero_add])
            have c0 : wr.cell? ⟨cb, 0, none⟩ = some (.slice (some ⟨zt.lb, 0, none⟩) N zt.lc) := cell_of_heap hCt.blk 0
            have c1 : wr.cell? ⟨cb, 1, none⟩ = some (.slice (some ⟨zt.mb, 0, none⟩) m.length zt.mc) := (cell_of_heap hCt.blk 1).trans (by rw [hmet]; rfl)
            clear hCt hzt hst hmet
            by_cases hlt : t < N
            · have htI : (t : Int) < (N : Int) := by omega
              have hkn : t < N := by omega
              cases hbt : mk.testBit t with
              | false =>
                rw [hbt] at HRI
                have hbit : (((mk : Int) / 2 ^ t).tmod 2 == 1) = false := by rw [bit_tm]; exact hbt
                go_wp2
                go_roundw
                case rel => exact ⟨t + 1, zt, by omega, by go_num, by rw [HRI.out]; exact HCt.out, HZT.out, HSTt.out⟩
                case measure => simp [intOf]; omega
              | true =>
                rw [hbt] at HRI
                have hbit : (((mk : Int) / 2 ^ t).tmod 2 == 1) = true := by rw [bit_tm]; exact hbt
                have hgo := HGO.out t hlt hbt
                rw [← HRL.out] at hgo
                have HOK := Lib.hid HCt.out.ok
                have HCr := Lib.hid HCt.out.cm
                obtain ⟨e0, e1, e2, e3⟩ := HCt.out.cm.cells hkn
                obtain ⟨hcbs, hcbm, hcbl⟩ := HCt.out.sep
                have hBW := HCt.out.hB
                have HBr := HBt
                have HMLN := HME
                generalize hce : runIn l ci 0 mk t = cj at *
                clear hce
                have hwt := (goes_pos hgo).1
                have hps := (goes_pos hgo).2
                have HSI := Lib.hid (show stepIf l cj (t) = stepAt l cj (t) by unfold stepIf; rw [hgo]; rfl)
                rw [hwt] at e3
                have hok5 := stepIf_ok hp N8 HOK.out hkn
                go_upto_region 11 with fail
                have hXd := Ext.drew wr
                have hCd := HCr.out.ext hXd
                have h4 := ((HOK.out.at_ hkn).2).four
                have hAd := (HA.out.below (HBr.out.trans (hXd.below.mono hBW))).more (Nat.le_trans HBr.out.size hXd.size)
                have hRd : RdI wr.drew wr.drew.heap.size (some ⟨zt.R t, 0, none⟩) (cj.lane t).regs := by
                  have h := OR.reads (hCd.regs t hkn)
                  unfold RdI
                  rw [h4]
                  exact h
                have hTd : RdI wr.drew wr.drew.heap.size (adr (zt.T t)) (cj.lane t).turns := OR.reads (hCd.turns t hkn)
                have hml := HMLN.out
                have HL6 := Lib.hid (l6Step_c (some ⟨ab, ao, none⟩) (some ⟨zt.R t, 0, none⟩) (adr (zt.T t)) ca (zt.RC t) (zt.TC t) l (cj.lane t) t w.heap.size zt.mb m.length zt.mc cj.mem wr.drew hAd hRd hTd (OI.nilc (hCd.turns t hkn)) (by have h := hCd.mem; rw [HME.out] at h; exact h) (by exact hBW) ⟨hm1, hm32⟩ ((HOK.out).words) hp ((HOK.out.at_ hkn).2) hwt hps (by omega))
                have HCd := Lib.hid hCd
                clear hCd hAd hRd hTd hXd h4 hml
                unfold lnV at HL6
                rw [hwt] at HL6
                go_wp2_with fail
                refine wp_region_held_drew (S := fun w' => w'.cell? ⟨cb, 0, none⟩ = some (.slice (some ⟨zt.lb, 0, none⟩) N zt.lc) ∧ w'.cell? ⟨cb, 1, none⟩ = some (.slice (some ⟨zt.mb, 0, none⟩) m.length zt.mc)) (by kernel_rfl) ⟨c0, c1⟩ (fun hHeld => ?_)
                refine wpAnyH_take (i := 0) (v := ?_) rfl (by decide +kernel) (by decide +kernel) (by decide +kernel) (fun _ _ _ h => h) (Or.inl ⟨by rfl, ?_⟩) (by assumption) ?_
                rotate_left
                · (intro w hSw; (try dsimp only at hSw); obtain ⟨s0, s1⟩ := hSw; (try dsimp only [List.getElem_toArray, List.getElem_cons_succ, List.getElem_cons_zero]); go_simp)
                  try with_reducible rfl
                try simp only [List.getElem_toArray, List.getElem_cons_succ, List.getElem_cons_zero, Act.put, List.setIfInBounds_toArray, List.set_cons_zero, List.set_cons_succ]
                refine wpAnyH_take (i := 1) (v := ?_) rfl (by decide +kernel) (by decide +kernel) (by decide +kernel) (fun _ _ _ h => h) (Or.inl ⟨by rfl, ?_⟩) (by assumption) ?_
                rotate_left
                · (intro w hSw; (try dsimp only at hSw); obtain ⟨s0, s1⟩ := hSw; (try dsimp only [List.getElem_toArray, List.getElem_cons_succ, List.getElem_cons_zero]); go_simp)
                  try with_reducible rfl
                try simp only [List.getElem_toArray, List.getElem_cons_succ, List.getElem_cons_zero, Act.put, List.setIfInBounds_toArray, List.set_cons_zero, List.set_cons_succ]
                refine wpAnyH_take (i := 2) (v := ?_) rfl (by decide +kernel) (by decide +kernel) (by decide +kernel) (fun _ _ _ h => h) (Or.inl ⟨by rfl, ?_⟩) (by assumption) ?_
                rotate_left
                · (intro w hSw; (try dsimp only at hSw); obtain ⟨s0, s1⟩ := hSw; (try dsimp only [List.getElem_toArray, List.getElem_cons_succ, List.getElem_cons_zero]); go_simp)
                  try with_reducible rfl
                try simp only [List.getElem_toArray, List.getElem_cons_succ, List.getElem_cons_zero, Act.put, List.setIfInBounds_toArray, List.set_cons_zero, List.set_cons_succ]
                refine wpAnyH_take (i := 3) (v := ?_) rfl (by decide +kernel) (by decide +kernel) (by decide +kernel) (fun _ _ _ h => h) (Or.inl ⟨by rfl, ?_⟩) (by assumption) ?_
                rotate_left
                · (intro w hSw; (try dsimp only at hSw); obtain ⟨s0, s1⟩ := hSw; (try dsimp only [List.getElem_toArray, List.getElem_cons_succ, List.getElem_cons_zero]); go_simp)
                  try with_reducible rfl
                try simp only [List.getElem_toArray, List.getElem_cons_succ, List.getElem_cons_zero, Act.put, List.setIfInBounds_toArray, List.set_cons_zero, List.set_cons_succ]
                refine wpAnyH_take (i := 4) (v := ?_) rfl (by decide +kernel) (by decide +kernel) (by decide +kernel) (fun _ _ _ h => h) (Or.inl ⟨by rfl, ?_⟩) (by assumption) ?_
                rotate_left
                · (intro w hSw; (try dsimp only at hSw); obtain ⟨s0, s1⟩ := hSw; (try dsimp only [List.getElem_toArray, List.getElem_cons_succ, List.getElem_cons_zero]); go_simp)
                  try with_reducible rfl
                try simp only [List.getElem_toArray, List.getElem_cons_succ, List.getElem_cons_zero, Act.put, List.setIfInBounds_toArray, List.set_cons_zero, List.set_cons_succ]
                refine wpAnyH_take (i := 5) (v := ?_) rfl (by decide +kernel) (by decide +kernel) (by decide +kernel) (fun _ _ _ h => h) (Or.inl ⟨by rfl, ?_⟩) (by assumption) ?_
                rotate_left
                · (intro w hSw; (try dsimp only at hSw); obtain ⟨s0, s1⟩ := hSw; (try dsimp only [List.getElem_toArray, List.getElem_cons_succ, List.getElem_cons_zero]); go_simp)
                  try with_reducible rfl
                try simp only [List.getElem_toArray, List.getElem_cons_succ, List.getElem_cons_zero, Act.put, List.setIfInBounds_toArray, List.set_cons_zero, List.set_cons_succ]
                refine wpAnyH_take (i := 6) (v := ?_) rfl (by decide +kernel) (by decide +kernel) (by decide +kernel) (fun _ _ _ h => h) (Or.inl ⟨by rfl, ?_⟩) (by assumption) ?_
                rotate_left
                · (intro w hSw; (try dsimp only at hSw); obtain ⟨s0, s1⟩ := hSw; (try dsimp only [List.getElem_toArray, List.getElem_cons_succ, List.getElem_cons_zero]); go_simp)
                  try with_reducible rfl
                try simp only [List.getElem_toArray, List.getElem_cons_succ, List.getElem_cons_zero, Act.put, List.setIfInBounds_toArray, List.set_cons_zero, List.set_cons_succ]
                refine wpAnyH_take (i := 8) (v := ?_) rfl (by decide +kernel) (by decide +kernel) (by decide +kernel) (fun _ _ _ h => h) (Or.inl ⟨by rfl, ?_⟩) (by assumption) ?_
                rotate_left
                · (intro w hSw; (try dsimp only at hSw); obtain ⟨s0, s1⟩ := hSw; (try dsimp only [List.getElem_toArray, List.getElem_cons_succ, List.getElem_cons_zero]); go_simp)
                  try with_reducible rfl
                try simp only [List.getElem_toArray, List.getElem_cons_succ, List.getElem_cons_zero, Act.put, List.setIfInBounds_toArray, List.set_cons_zero, List.set_cons_succ]
                refine wpAnyH_take (i := 9) (v := ?_) rfl (by decide +kernel) (by decide +kernel) (by decide +kernel) (fun _ _ _ h => h) (Or.inl ⟨by rfl, ?_⟩) (by assumption) ?_
                rotate_left
                · (intro w hSw; (try dsimp only at hSw); obtain ⟨s0, s1⟩ := hSw; (try dsimp only [List.getElem_toArray, List.getElem_cons_succ, List.getElem_cons_zero]); go_simp)
                  try with_reducible rfl
                try simp only [List.getElem_toArray, List.getElem_cons_succ, List.getElem_cons_zero, Act.put, List.setIfInBounds_toArray, List.set_cons_zero, List.set_cons_succ]
                refine wpAnyH_take (i := 10) (v := ?_) rfl (by decide +kernel) (by decide +kernel) (by decide +kernel) (fun _ _ _ h => h) (Or.inl ⟨by rfl, ?_⟩) (by assumption) ?_
                rotate_left
                · (intro w hSw; (try dsimp only at hSw); obtain ⟨s0, s1⟩ := hSw; (try dsimp only [List.getElem_toArray, List.getElem_cons_succ, List.getElem_cons_zero]); go_simp)
                  try with_reducible rfl
                try simp only [List.getElem_toArray, List.getElem_cons_succ, List.getElem_cons_zero, Act.put, List.setIfInBounds_toArray, List.set_cons_zero, List.set_cons_succ]
                refine wpAnyH_take (i := 11) (v := ?_) rfl (by decide +kernel) (by decide +kernel) (by decide +kernel) (fun _ _ _ h => h) (Or.inl ⟨by rfl, ?_⟩) (by assumption) ?_
                rotate_left
                · (intro w hSw; (try dsimp only at hSw); obtain ⟨s0, s1⟩ := hSw; (try dsimp only [List.getElem_toArray, List.getElem_cons_succ, List.getElem_cons_zero]); go_simp)
                  try with_reducible rfl
                try simp only [List.getElem_toArray, List.getElem_cons_succ, List.getElem_cons_zero, Act.put, List.setIfInBounds_toArray, List.set_cons_zero, List.set_cons_succ]
                refine wpAnyH_ready (rs := [7]) (by kernel_rfl) (by simp) ?_
                refine AllReadyH.cons rfl (fun K hK => ?_) AllReadyH.nil
                try dsimp only [List.getElem_toArray, List.getElem_cons_succ, List.getElem_cons_zero]
                go_simp
                refine hK.out _ _ ?_ (fun hHeld2 => ?_)
                · exact hHeld
                clear hK K
                try simp only [List.getElem_toArray, List.getElem_cons_succ, List.getElem_cons_zero, Act.put, List.setIfInBounds_toArray, List.set_cons_zero, List.set_cons_succ]
                refine wpAnyH_ready (rs := [12]) (by kernel_rfl) (by simp) ?_
                refine AllReadyH.cons rfl (fun K hK => ?_) AllReadyH.nil
                try dsimp only [List.getElem_toArray, List.getElem_cons_succ, List.getElem_cons_zero]
                go_simp
                go_at_call 65
                refine (HL6.out).mono ?_
                rintro e w4 ⟨r, rc, t', tc, rfl, hL4, hM4, hg4⟩
                unfold lnV
                have hmb4 := (OR.base_le HCd.out.mem)
                have k0 := (cell_heap_eq (hg4.block cb (by exact hcbs) (fun e => hcbm (by injection e with e; exact e.symm))) 0).trans c0
                have k1 := (cell_heap_eq (hg4.block cb (by exact hcbs) (fun e => hcbm (by injection e with e; exact e.symm))) 1).trans c1
                try dsimp only
                refine hK.out _ _ ?_ (fun hHeld3 => ?_)
                · exact ⟨k0, k1⟩
                clear hK K hHeld2
                try simp only [List.getElem_toArray, List.getElem_cons_succ, List.getElem_cons_zero, Act.put, List.setIfInBounds_toArray, List.set_cons_zero, List.set_cons_succ]
                refine wpAnyH_ready (rs := [13]) (by kernel_rfl) (by simp) ?_
                refine AllReadyH.cons rfl (fun K hK => ?_) AllReadyH.nil
                try dsimp only [List.getElem_toArray, List.getElem_cons_succ, List.getElem_cons_zero]
                go_simp
                refine hK.out _ _ ?_ (fun hHeld4 => ?_)
                · exact hHeld3
                clear hK K hHeld3
                try simp only [List.getElem_toArray, List.getElem_cons_succ, List.getElem_cons_zero, Act.put, List.setIfInBounds_toArray, List.set_cons_zero, List.set_cons_succ]
                refine wpAnyH_ready (rs := [14]) (by kernel_rfl) (by simp) ?_
                refine AllReadyH.cons rfl (fun K hK => ?_) AllReadyH.nil
                have hnew := CM.lane_new HCd.out (by exact hBW) hkn HOK.out.len hL4 (by rw [HME.out]; exact hM4) ((simp1_len _ _ _ _).2) hg4
                have hth : w4.there zt.lb (t * 4) 4 := there4 HCd.out hg4 (by exact hBW) hkn
                refine (if_pos ?hwS).mpr ?_
                case hwS => rfl
                refine wp_store_mid _ _ _ rfl zt.lb (t * 4) _ rfl rfl hth (by kernel_rfl) (by simp [Value.oneCell']) ?_
                refine hK.out _ _ ?_ (fun hHeld5 => ?_)
                · exact ⟨(World.cell?_setCells_out _ _ _ _ _ (fun e _ => absurd e hcbl)).trans hHeld4.1, (World.cell?_setCells_out _ _ _ _ _ (fun e _ => absurd e hcbl)).trans hHeld4.2⟩
                clear hK K hHeld4 hHeld
                refine wpAnyH_done (by kernel_rfl) ?_ _
                have HC5 := Lib.hid (show CM (fun _ => True) _ w.heap.size N _ (stepAt l cj t) from hnew.1)
                have HST5 := Lib.hid hnew.2
                clear hnew hth hL4 hM4 hg4 k0 k1 hmb4
                rw [HSI.out] at hok5
                have HOK5 := Lib.hid hok5.1
                have HSC5 := Lib.hid ((HCt.out.ext (Ext.drew wr)).next HC5.out ⟨rfl, rfl, rfl, rfl⟩ HST5.out hok5.1 hok5.2)
                have HST6 := Lib.hid ((HSTt.out.trans (StC.of_ext (Ext.drew wr) hBW)).trans HST5.out)
                simp only [if_true] at HRI
                rw [HSI.out] at HRI
                clear hok5 hHeld5 e0 e1 e2 e3 HL6
                generalize w4.setCells _ _ _ = w5 at *
                go_wp2
                go_roundw
                case rel => exact ⟨t + 1, zt.put t r rc t' tc, by omega, by go_num, by rw [HRI.out]; exact HSC5.out, HZT.out, HST6.out⟩
                case measure => simp [intOf]; omega
            · obtain rfl : t = N := by omega
              have hnI : ¬ ((t : Int) < (t : Int)) := by omega
              have hLF := Lib.hid (sl7Free_c (ca := ca) (A := some ⟨ab, ao, none⟩) HCt.out.cm HCt.out.ok N8 HCt.out.hB)
              unfold cwV at hLF
              rw [HME.out] at hLF
              have HTx := Lib.hid (OR.byType HT6.out (fun g cs hg => HSTt.out.byt g cs _ (by decide) (by decide) hg))
              have HRx := Lib.hid (HSTt.out.byt _ _ _ (by decide) (by decide) HR6.out)
              go_wp2_with fail
              refine (hLF.out).mono ?_
              rintro e w7 ⟨rfl, hC7, hst7⟩
              have HS7 := Lib.hid (HCt.out.next hC7 (SmG.refl _) hst7 (HCt.out.ok.passC).1 (by rw [(HCt.out.ok.passC).2.2]))
              have HB7 := Lib.hid (HBt.out.trans hst7.bel)
              have HT7 := Lib.hid (OR.byType HTx.out (fun g cs hg => hst7.byt g cs _ (by decide) (by decide) hg))
              have HR7 := Lib.hid (hst7.byt _ _ _ (by decide) (by decide) HRx.out)
              clear hC7 hst7
              go_wp2
              go_roundg (T - (i + 1))
              case measure => omega
              case rel => exact ⟨i + 1, zt, _, _, bs, by first | omega | (simp; omega), by first | omega | (simp; omega), by first | rfl | simp, HT7.out, by rw [HGD.out]; exact HS7.out, HB7.out, HR7.out⟩
        · have ht14 : (x.op != 14) = true := by simp [h14]
          clear h12 h14
          have hXa := Ext.alloc w6' (.cells #[.int .i64 at', .int .i64 mk] 78)
          have HTa := Lib.hid (HT6.out.ext hXa)
          have HXa := Lib.hid hXa
          have hsa : w.heap.size ≤ (w6'.alloc (.cells #[.int .i64 at', .int .i64 mk] 78)).heap.size := Nat.le_trans HB6'.out.size hXa.size
          clear hXa
          go_wp2_with (at_builtin; refine app_row 47 78 _ 2 16 Tryz.underlying47 infoBeat rfl (by decide) (by decide) rfl _ _ rfl w.heap.size At bs.length ct _ HTa.out rfl w6'.heap.size 1 1 [.int .i64 at', .int .i64 mk] rfl rfl ?hc ?h1 ?hn ?hb ?_)
          case hc =>
            intro j u hu
            match j, hu with
            | 0, hu => simp at hu; subst hu; simp [go_sem]
            | 1, hu => simp at hu; subst hu; simp [go_sem]
          case h1 => intro u hu; simp at hu; rcases hu with rfl | rfl <;> rfl
          case hn => omega
          case hb => exact hsa
          intro A2 c2 w6 ho2 hg2
          have HSC6 := Lib.hid ((HC6.out.ext HXa.out).app HTa.out hg2)
          have HB6 := Lib.hid (below_gr (HB6'.out.trans (HXa.out.below.mono HB6'.out.size)) hsa HTa.out (Nat.le_refl _) hg2)
          replace HR6 := Lib.hid (blk_app HTa.out hg2 (HXa.out.heap_ HR6.out) (by decide))
          replace HT6 : Hid (OR w6 w.heap.size 78 2 A2 (bs ++ [(at', mk)]).length c2 (beatsV (bs ++ [(at', mk)]))) := Lib.hid (by rw [beatsV_append, List.length_append]; exact ho2)
          have HLB := Lib.hid (show (bs ++ [(at', mk)]).length = bs.length + 1 by simp)
          clear ho2 hg2 HTa HXa c0 c1 a0
          go_wp2
          go_loopw [12] (fun kv wr => SiRel w w6 N cb l zi ci 0 mk N kv wr) (fun kv _ => N - (intOf kv).toNat)
          case atStart => exact ⟨0, zi, Nat.zero_le _, rfl, HSC6.out, SmG.refl _, StC.refl _ _⟩
          case round =>
            obtain ⟨t, zt, ht, rfl, hCt, hzt, hst⟩ := hrel
            have HBt := Lib.hid (HB6.out.trans hst.bel)
            have HZT := Lib.hid hzt
            have HCt := Lib.hid hCt
            have HSTt := Lib.hid hst
            have hmet := (runIn_ok hp N8 HOK0.out (mk := mk) (lo := 0) (cnt := N) (by omega) t ht).2
            rw [HME0.out] at hmet
            have HME := Lib.hid hmet
            have HRL := Lib.hid (show (runIn l ci 0 mk t).lane (t) = ci.lane (t) by have h := runIn_lane (l := l) (c := ci) (lo := 0) (mk := mk) t t (Nat.le_refl _); simpa only [Nat.zero_add] using h)
            have HRI := Lib.hid (show runIn l ci 0 mk (t + 1) = if mk.testBit t then stepIf l (runIn l ci 0 mk t) (t) else runIn l ci 0 mk t by simp only [runIn, Nat.zero_add])
            have c0 : wr.cell? ⟨cb, 0, none⟩ = some (.slice (some ⟨zt.lb, 0, none⟩) N zt.lc) := cell_of_heap hCt.blk 0
            have c1 : wr.cell? ⟨cb, 1, none⟩ = some (.slice (some ⟨zt.mb, 0, none⟩) m.length zt.mc) := (cell_of_heap hCt.blk 1).trans (by rw [hmet]; rfl)
            clear hCt hzt hst hmet
            by_cases hlt : t < N
            · have htI : (t : Int) < (N : Int) := by omega
              have hkn : t < N := by omega
              cases hbt : mk.testBit t with
              | false =>
                rw [hbt] at HRI
                have hbit : (((mk : Int) / 2 ^ t).tmod 2 == 1) = false := by rw [bit_tm]; exact hbt
                go_wp2
                go_roundw
                case rel => exact ⟨t + 1, zt, by omega, by go_num, by rw [HRI.out]; exact HCt.out, HZT.out, HSTt.out⟩
                case measure => simp [intOf]; omega
              | true =>
                rw [hbt] at HRI
                have hbit : (((mk : Int) / 2 ^ t).tmod 2 == 1) = true := by rw [bit_tm]; exact hbt
                have hgo := HGO.out t hlt hbt
                rw [← HRL.out] at hgo
                have HOK := Lib.hid HCt.out.ok
                have HCr := Lib.hid HCt.out.cm
                obtain ⟨e0, e1, e2, e3⟩ := HCt.out.cm.cells hkn
                obtain ⟨hcbs, hcbm, hcbl⟩ := HCt.out.sep
                have hBW := HCt.out.hB
                have HBr := HBt
                have HMLN := HME
                generalize hce : runIn l ci 0 mk t = cj at *
                clear hce
                have hwt := (goes_pos hgo).1
                have hps := (goes_pos hgo).2
                have HSI := Lib.hid (show stepIf l cj (t) = stepAt l cj (t) by unfold stepIf; rw [hgo]; rfl)
                rw [hwt] at e3
                have hok5 := stepIf_ok hp N8 HOK.out hkn
                go_upto_region 11 with fail
                have hXd := Ext.drew wr
                have hCd := HCr.out.ext hXd
                have h4 := ((HOK.out.at_ hkn).2).four
                have hAd := (HA.out.below (HBr.out.trans (hXd.below.mono hBW))).more (Nat.le_trans HBr.out.size hXd.size)
                have hRd : RdI wr.drew wr.drew.heap.size (some ⟨zt.R t, 0, none⟩) (cj.lane t).regs := by
                  have h := OR.reads (hCd.regs t hkn)
                  unfold RdI
                  rw [h4]
                  exact h
                have hTd : RdI wr.drew wr.drew.heap.size (adr (zt.T t)) (cj.lane t).turns := OR.reads (hCd.turns t hkn)
                have hml := HMLN.out
                have HL6 := Lib.hid (l6Step_c (some ⟨ab, ao, none⟩) (some ⟨zt.R t, 0, none⟩) (adr (zt.T t)) ca (zt.RC t) (zt.TC t) l (cj.lane t) t w.heap.size zt.mb m.length zt.mc cj.mem wr.drew hAd hRd hTd (OI.nilc (hCd.turns t hkn)) (by have h := hCd.mem; rw [HME.out] at h; exact h) (by exact hBW) ⟨hm1, hm32⟩ ((HOK.out).words) hp ((HOK.out.at_ hkn).2) hwt hps (by omega))
                have HCd := Lib.hid hCd
                clear hCd hAd hRd hTd hXd h4 hml
                unfold lnV at HL6
                rw [hwt] at HL6
                go_wp2_with fail
                refine wp_region_held_drew (S := fun w' => w'.cell? ⟨cb, 0, none⟩ = some (.slice (some ⟨zt.lb, 0, none⟩) N zt.lc) ∧ w'.cell? ⟨cb, 1, none⟩ = some (.slice (some ⟨zt.mb, 0, none⟩) m.length zt.mc)) (by kernel_rfl) ⟨c0, c1⟩ (fun hHeld => ?_)
                refine wpAnyH_take (i := 0) (v := ?_) rfl (by decide +kernel) (by decide +kernel) (by decide +kernel) (fun _ _ _ h => h) (Or.inl ⟨by rfl, ?_⟩) (by assumption) ?_
                rotate_left
                · (intro w hSw; (try dsimp only at hSw); obtain ⟨s0, s1⟩ := hSw; (try dsimp only [List.getElem_toArray, List.getElem_cons_succ, List.getElem_cons_zero]); go_simp)
                  try with_reducible rfl
                try simp only [List.getElem_toArray, List.getElem_cons_succ, List.getElem_cons_zero, Act.put, List.setIfInBounds_toArray, List.set_cons_zero, List.set_cons_succ]
                refine wpAnyH_take (i := 1) (v := ?_) rfl (by decide +kernel) (by decide +kernel) (by decide +kernel) (fun _ _ _ h => h) (Or.inl ⟨by rfl, ?_⟩) (by assumption) ?_
                rotate_left
                · (intro w hSw; (try dsimp only at hSw); obtain ⟨s0, s1⟩ := hSw; (try dsimp only [List.getElem_toArray, List.getElem_cons_succ, List.getElem_cons_zero]); go_simp)
                  try with_reducible rfl
                try simp only [List.getElem_toArray, List.getElem_cons_succ, List.getElem_cons_zero, Act.put, List.setIfInBounds_toArray, List.set_cons_zero, List.set_cons_succ]
                refine wpAnyH_take (i := 2) (v := ?_) rfl (by decide +kernel) (by decide +kernel) (by decide +kernel) (fun _ _ _ h => h) (Or.inl ⟨by rfl, ?_⟩) (by assumption) ?_
                rotate_left
                · (intro w hSw; (try dsimp only at hSw); obtain ⟨s0, s1⟩ := hSw; (try dsimp only [List.getElem_toArray, List.getElem_cons_succ, List.getElem_cons_zero]); go_simp)
                  try with_reducible rfl
                try simp only [List.getElem_toArray, List.getElem_cons_succ, List.getElem_cons_zero, Act.put, List.setIfInBounds_toArray, List.set_cons_zero, List.set_cons_succ]
                refine wpAnyH_take (i := 3) (v := ?_) rfl (by decide +kernel) (by decide +kernel) (by decide +kernel) (fun _ _ _ h => h) (Or.inl ⟨by rfl, ?_⟩) (by assumption) ?_
                rotate_left
                · (intro w hSw; (try dsimp only at hSw); obtain ⟨s0, s1⟩ := hSw; (try dsimp only [List.getElem_toArray, List.getElem_cons_succ, List.getElem_cons_zero]); go_simp)
                  try with_reducible rfl
                try simp only [List.getElem_toArray, List.getElem_cons_succ, List.getElem_cons_zero, Act.put, List.setIfInBounds_toArray, List.set_cons_zero, List.set_cons_succ]
                refine wpAnyH_take (i := 4) (v := ?_) rfl (by decide +kernel) (by decide +kernel) (by decide +kernel) (fun _ _ _ h => h) (Or.inl ⟨by rfl, ?_⟩) (by assumption) ?_
                rotate_left
                · (intro w hSw; (try dsimp only at hSw); obtain ⟨s0, s1⟩ := hSw; (try dsimp only [List.getElem_toArray, List.getElem_cons_succ, List.getElem_cons_zero]); go_simp)
                  try with_reducible rfl
                try simp only [List.getElem_toArray, List.getElem_cons_succ, List.getElem_cons_zero, Act.put, List.setIfInBounds_toArray, List.set_cons_zero, List.set_cons_succ]
                refine wpAnyH_take (i := 5) (v := ?_) rfl (by decide +kernel) (by decide +kernel) (by decide +kernel) (fun _ _ _ h => h) (Or.inl ⟨by rfl, ?_⟩) (by assumption) ?_
                rotate_left
                · (intro w hSw; (try dsimp only at hSw); obtain ⟨s0, s1⟩ := hSw; (try dsimp only [List.getElem_toArray, List.getElem_cons_succ, List.getElem_cons_zero]); go_simp)
                  try with_reducible rfl
                try simp only [List.getElem_toArray, List.getElem_cons_succ, List.getElem_cons_zero, Act.put, List.setIfInBounds_toArray, List.set_cons_zero, List.set_cons_succ]
                refine wpAnyH_take (i := 6) (v := ?_) rfl (by decide +kernel) (by decide +kernel) (by decide +kernel) (fun _ _ _ h => h) (Or.inl ⟨by rfl, ?_⟩) (by assumption) ?_
                rotate_left
                · (intro w hSw; (try dsimp only at hSw); obtain ⟨s0, s1⟩ := hSw; (try dsimp only [List.getElem_toArray, List.getElem_cons_succ, List.getElem_cons_zero]); go_simp)
                  try with_reducible rfl
                try simp only [List.getElem_toArray, List.getElem_cons_succ, List.getElem_cons_zero, Act.put, List.setIfInBounds_toArray, List.set_cons_zero, List.set_cons_succ]
                refine wpAnyH_take (i := 8) (v := ?_) rfl (by decide +kernel) (by decide +kernel) (by decide +kernel) (fun _ _ _ h => h) (Or.inl ⟨by rfl, ?_⟩) (by assumption) ?_
                rotate_left
                · (intro w hSw; (try dsimp only at hSw); obtain ⟨s0, s1⟩ := hSw; (try dsimp only [List.getElem_toArray, List.getElem_cons_succ, List.getElem_cons_zero]); go_simp)
                  try with_reducible rfl
                try simp only [List.getElem_toArray, List.getElem_cons_succ, List.getElem_cons_zero, Act.put, List.setIfInBounds_toArray, List.set_cons_zero, List.set_cons_succ]
                refine wpAnyH_take (i := 9) (v := ?_) rfl (by decide +kernel) (by decide +kernel) (by decide +kernel) (fun _ _ _ h => h) (Or.inl ⟨by rfl, ?_⟩) (by assumption) ?_
                rotate_left
                · (intro w hSw; (try dsimp only at hSw); obtain ⟨s0, s1⟩ := hSw; (try dsimp only [List.getElem_toArray, List.getElem_cons_succ, List.getElem_cons_zero]); go_simp)
                  try with_reducible rfl
                try simp only [List.getElem_toArray, List.getElem_cons_succ, List.getElem_cons_zero, Act.put, List.setIfInBounds_toArray, List.set_cons_zero, List.set_cons_succ]
                refine wpAnyH_take (i := 10) (v := ?_) rfl (by decide +kernel) (by decide +kernel) (by decide +kernel) (fun _ _ _ h => h) (Or.inl ⟨by rfl, ?_⟩) (by assumption) ?_
                rotate_left
                · (intro w hSw; (try dsimp only at hSw); obtain ⟨s0, s1⟩ := hSw; (try dsimp only [List.getElem_toArray, List.getElem_cons_succ, List.getElem_cons_zero]); go_simp)
                  try with_reducible rfl
                try simp only [List.getElem_toArray, List.getElem_cons_succ, List.getElem_cons_zero, Act.put, List.setIfInBounds_toArray, List.set_cons_zero, List.set_cons_succ]
                refine wpAnyH_take (i := 11) (v := ?_) rfl (by decide +kernel) (by decide +kernel) (by decide +kernel) (fun _ _ _ h => h) (Or.inl ⟨by rfl, ?_⟩) (by assumption) ?_
                rotate_left
                · (intro w hSw; (try dsimp only at hSw); obtain ⟨s0, s1⟩ := hSw; (try dsimp only [List.getElem_toArray, List.getElem_cons_succ, List.getElem_cons_zero]); go_simp)
                  try with_reducible rfl
                try simp only [List.getElem_toArray, List.getElem_cons_succ, List.getElem_cons_zero, Act.put, List.setIfInBounds_toArray, List.set_cons_zero, List.set_cons_succ]
                refine wpAnyH_ready (rs := [7]) (by kernel_rfl) (by simp) ?_
                refine AllReadyH.cons rfl (fun K hK => ?_) AllReadyH.nil
                try dsimp only [List.getElem_toArray, List.getElem_cons_succ, List.getElem_cons_zero]
                go_simp
                refine hK.out _ _ ?_ (fun hHeld2 => ?_)
                · exact hHeld
                clear hK K
                try simp only [List.getElem_toArray, List.getElem_cons_succ, List.getElem_cons_zero, Act.put, List.setIfInBounds_toArray, List.set_cons_zero, List.set_cons_succ]
                refine wpAnyH_ready (rs := [12]) (by kernel_rfl) (by simp) ?_
                refine AllReadyH.cons rfl (fun K hK => ?_) AllReadyH.nil
                try dsimp only [List.getElem_toArray, List.getElem_cons_succ, List.getElem_cons_zero]
                go_simp
                go_at_call 65
                refine (HL6.out).mono ?_
                rintro e w4 ⟨r, rc, t', tc, rfl, hL4, hM4, hg4⟩
                unfold lnV
                have hmb4 := (OR.base_le HCd.out.mem)
                have k0 := (cell_heap_eq (hg4.block cb (by exact hcbs) (fun e => hcbm (by injection e with e; exact e.symm))) 0).trans c0
                have k1 := (cell_heap_eq (hg4.block cb (by exact hcbs) (fun e => hcbm (by injection e with e; exact e.symm))) 1).trans c1
                try dsimp only
                refine hK.out _ _ ?_ (fun hHeld3 => ?_)
                · exact ⟨k0, k1⟩
                clear hK K hHeld2
                try simp only [List.getElem_toArray, List.getElem_cons_succ, List.getElem_cons_zero, Act.put, List.setIfInBounds_toArray, List.set_cons_zero, List.set_cons_succ]
                refine wpAnyH_ready (rs := [13]) (by kernel_rfl) (by simp) ?_
                refine AllReadyH.cons rfl (fun K hK => ?_) AllReadyH.nil
                try dsimp only [List.getElem_toArray, List.getElem_cons_succ, List.getElem_cons_zero]
                go_simp
                refine hK.out _ _ ?_ (fun hHeld4 => ?_)
                · exact hHeld3
                clear hK K hHeld3
                try simp only [List.getElem_toArray, List.getElem_cons_succ, List.getElem_cons_zero, Act.put, List.setIfInBounds_toArray, List.set_cons_zero, List.set_cons_succ]
                refine wpAnyH_ready (rs := [14]) (by kernel_rfl) (by simp) ?_
                refine AllReadyH.cons rfl (fun K hK => ?_) AllReadyH.nil
                have hnew := CM.lane_new HCd.out (by exact hBW) hkn HOK.out.len hL4 (by rw [HME.out]; exact hM4) ((simp1_len _ _ _ _).2) hg4
                have hth : w4.there zt.lb (t * 4) 4 := there4 HCd.out hg4 (by exact hBW) hkn
                refine (if_pos ?hwS).mpr ?_
                case hwS => rfl
                refine wp_store_mid _ _ _ rfl zt.lb (t * 4) _ rfl rfl hth (by kernel_rfl) (by simp [Value.oneCell']) ?_
                refine hK.out _ _ ?_ (fun hHeld5 => ?_)
                · exact ⟨(World.cell?_setCells_out _ _ _ _ _ (fun e _ => absurd e hcbl)).trans hHeld4.1, (World.cell?_setCells_out _ _ _ _ _ (fun e _ => absurd e hcbl)).trans hHeld4.2⟩
                clear hK K hHeld4 hHeld
                refine wpAnyH_done (by kernel_rfl) ?_ _
                have HC5 := Lib.hid (show CM (fun _ => True) _ w.heap.size N _ (stepAt l cj t) from hnew.1)
                have HST5 := Lib.hid hnew.2
                clear hnew hth hL4 hM4 hg4 k0 k1 hmb4
                rw [HSI.out] at hok5
                have HOK5 := Lib.hid hok5.1
                have HSC5 := Lib.hid ((HCt.out.ext (Ext.drew wr)).next HC5.out ⟨rfl, rfl, rfl, rfl⟩ HST5.out hok5.1 hok5.2)
                have HST6 := Lib.hid ((HSTt.out.trans (StC.of_ext (Ext.drew wr) hBW)).trans HST5.out)
                simp only [if_true] at HRI
                rw [HSI.out] at HRI
                clear hok5 hHeld5 e0 e1 e2 e3 HL6
                generalize w4.setCells _ _ _ = w5 at *
                go_wp2
                go_roundw
                case rel => exact ⟨t + 1, zt.put t r rc t' tc, by omega, by go_num, by rw [HRI.out]; exact HSC5.out, HZT.out, HST6.out⟩
                case measure => simp [intOf]; omega
            · obtain rfl : t = N := by omega
              have hnI : ¬ ((t : Int) < (t : Int)) := by omega
              have hLF := Lib.hid (sl7Free_c (ca := ca) (A := some ⟨ab, ao, none⟩) HCt.out.cm HCt.out.ok N8 HCt.out.hB)
              unfold cwV at hLF
              rw [HME.out] at hLF
              have HTx := Lib.hid (OR.byType HT6.out (fun g cs hg => HSTt.out.byt g cs _ (by decide) (by decide) hg))
              have HRx := Lib.hid (HSTt.out.byt _ _ _ (by decide) (by decide) HR6.out)
              go_wp2_with fail
              refine (hLF.out).mono ?_
              rintro e w7 ⟨rfl, hC7, hst7⟩
              have HS7 := Lib.hid (HCt.out.next hC7 (SmG.refl _) hst7 (HCt.out.ok.passC).1 (by rw [(HCt.out.ok.passC).2.2]))
              have HB7 := Lib.hid (HBt.out.trans hst7.bel)
              have HT7 := Lib.hid (OR.byType HTx.out (fun g cs hg => hst7.byt g cs _ (by decide) (by decide) hg))
              have HR7 := Lib.hid (hst7.byt _ _ _ (by decide) (by decide) HRx.out)
              clear hC7 hst7
              go_wp2
              go_roundg (T - (i + 1))
              case measure => omega
              case rel => exact ⟨i + 1, zt, _, _, (bs ++ [(at', mk)]), by first | omega | (simp; omega), by first | omega | (simp; omega), by first | rfl | simp, HT7.out, by rw [HGD.out]; exact HS7.out, HB7.out, HR7.out⟩
    · obtain rfl : i = T := by omega
      have hov := HT1.out
      rw [hov] at hLD
      go_wp2_with fail
      refine (hLD.out).mono ?_
      rintro e w6 ⟨rfl, hx6⟩
      have HC6 := Lib.hid (HCi.out.ext hx6)
      have HB6 := Lib.hid (HBr.out.trans (hx6.below.mono (by have := HBr.out.size; exact this)))
      have hRS := hx6.heap_ HRi.out
      replace c0 := hx6.cell c0
      replace c1 := hx6.cell c1
      have hres : w6.cell? ⟨w.heap.size, 0, none⟩ = some (.slice none 0 0) := cell_of_heap hRS 0
      have hres1 : w6.cell? ⟨w.heap.size, 1, none⟩ = some (.slice none 0 0) := cell_of_heap hRS 1
      have f0 := free_of_heap hRS 0
      have f1 := free_of_heap hRS 1
      have HRS := Lib.hid hRS
      clear hx6 hLD hRS
      go_wp2
      have hz1 := heap_set_same HRS.out 0 (.slice (some ⟨zi.lb, 0, none⟩) N zi.lc)
      have hz2 := heap_set_same hz1 1 (.slice (some ⟨zi.mb, 0, none⟩) m.length zi.mc)
      refine ret_cell2 Tryz.results62 _ rfl _ rfl _ _ _ hz2 _ (Tryz.underlying67) rfl (by kernel_rfl) rfl ?_
      have hmm : OI w6 w.heap.size (some ⟨zi.mb, 0, none⟩) m.length zi.mc (runC l sch c0' i).mem := by have h := HC6.out.cm.mem; rw [HME0.out] at h; exact h
      have hn1 := own_ne hmm HRS.out (by decide)
      refine ⟨some ⟨zi.lb, 0, none⟩, N, zi.lc, some ⟨zi.mb, 0, none⟩, zi.mc, .slice At bs.length ct, ?_, ?_, (HB6.out.setCell (Nat.le_refl _) _).setCell (Nat.le_refl _) _⟩
      · rw [HRE.out, HME0.out]
        rfl
      rw [HRE.out, HME0.out]
      exact OR.set_other (OR.set_other hmm (p := ⟨w.heap.size, 0, none⟩) hn1 _) (p := ⟨w.heap.size, 1, none⟩) hn1 _

end Go.Proofs.YtelbfeidpcojmaaGreat
