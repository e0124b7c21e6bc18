/- The reference's accesses: the walk. -/
import Derived.Test.YtakeacndmnnbmaaGreatWatch0
import Derived.Deep.CutRange
namespace Go.Proofs.YtakeacndmnnbmaaGreat
open Go.RowKit
set_option linter.unusedVariables false
set_option linter.unusedSimpArgs false

/-- What a call of watch leaves. -/
def WatchPost (w : World) (z : SW) (ob pb : Nat) (b : Blk) (p m : Nat) (s : LS) (e : Ending) (w' : World) : Prop :=
  e = .returned (.tuple #[]) ∧ ∃ U uc, WR w' z ob pb U uc (b.run p m s) ∧ Stp z.B w w'

def WKRel (w : World) (z : SW) (ob pb : Nat) (b : Blk) (d p m te : Nat) (s : LS) (rest : List Cd) (kv : Value) (wr : World) : Prop :=
  ∃ (r : Blk) (q : Nat) (U : Option Addr) (uc : Nat) (s1 : LS), kv = .int .i64 q ∧ Hid (z.l.drop q = r.flat ++ rest ∧ q + r.flat.length = te ∧ r.ok d ∧ b.run p m s = r.run q m s1) ∧ q ≤ te ∧
    WR wr z ob pb U uc s1 ∧ SOk z.n s1 ∧ Bd s1 ∧ s1.beats.length + r.wt ≤ 1000000000 ∧ r.flat.length ≤ b.flat.length ∧ Stp z.B w wr

def WPRel (w : World) (z : SW) (ob pb cb : Nat) (a c : Int) (cn : Nat) (t : Blk) (q m : Nat) (s0 : LS) (rw : Nat) (tv lv : Value) (wl : World) : Prop :=
  ∃ (j mj : Nat) (U : Option Addr) (uc : Nat) (sj : LS), j ≤ cn ∧ tv = .int .i64 j ∧ lv = .int .i64 (onesOf mj a sj) ∧ Hid (mj < 2 ^ z.n) ∧
    Hid (turnsOf (fun m s => t.run (q + 1) m s) a cn m s0 = turnsOf (fun m s => t.run (q + 1) m s) a (cn - j) mj sj) ∧
    WR wl z ob pb U uc sj ∧ SOk z.n sj ∧ Bd sj ∧ sj.beats.length + (cn - j) * t.wt + rw ≤ 1000000000 ∧ Hid (wl.heap[cb]? = some (.cells #[.int .i64 13, .int .i64 a, .int .i64 c, .int .i64 0] 57 (0, 0))) ∧ Stp z.B w wl

set_option maxRecDepth 100000 in
set_option maxHeartbeats 16000000 in
theorem watch_none (g ob pb : Addr) (fi ti mi : Int) (w : World) (h : ti ≤ fi) :
    Calls Tryz.prog 122 #[.pointer (some g), .int .i64 fi, .int .i64 ti, .int .i64 mi, .pointer (some ob), .pointer (some pb)] w fun e w' => e = .returned (.tuple #[]) ∧ w = w' := by
  go_enter Tryz.func122, Tryz.ntmps122
  go_wp2
  go_loopw [12] (fun kv wr => kv = .int .i64 fi ∧ wr = w) (fun _ _ => 0)
  case atStart => exact ⟨rfl, rfl⟩
  case round =>
    obtain ⟨rfl, rfl⟩ := hrel
    go_wp2
    go_end0
    exact ⟨rfl, rfl⟩

set_option maxRecDepth 100000 in
set_option maxHeartbeats 16000000 in
theorem watch_c (N : Nat) : ∀ (b : Blk) (d : Nat), b.flat.length ≤ N → b.ok d → ∀ (w : World) (z : SW) (ob pb : Nat) (U : Option Addr) (uc : Nat) (s : LS) (p m te : Nat) (fi ti mi : Int) (rest : List Cd),
    WR w z ob pb U uc s → SOk z.n s → Bd s → m < 2 ^ z.n → z.l.drop p = b.flat ++ rest → p + b.flat.length = te → z.l.length ≤ 1000000000 → te ≤ z.l.length → z.B ≤ w.heap.size → s.beats.length + b.wt ≤ 1000000000 → (∀ x ∈ z.l, cvOk x = true) →
    fi = p → ti = te → mi = m →
    Calls Tryz.prog 122 #[.pointer (some ⟨z.g, 0, none⟩), .int .i64 fi, .int .i64 ti, .int .i64 mi, .pointer (some ⟨ob, 0, none⟩), .pointer (some ⟨pb, 0, none⟩)] w (WatchPost w z ob pb b p m s) := by
  induction N using Nat.strongRecOn with
  | ind N IH =>
  intro b d hbN hbd' w z ob pb U uc s p m te fi ti mi rest hS hok hbd hm hdrop hte hl hle hB hwt hval hfi hti hmi
  subst hfi hti hmi
  have n8 := hok.n8
  have HIH := Lib.hid IH
  have HV := Lib.hid hval
  have m256 : m < 256 := Nat.lt_of_lt_of_le hm (Nat.pow_le_pow_right (by decide) n8)
  have HM := Lib.hid hm
  have HTE := Lib.hid hte
  have hpt : p ≤ te := by omega
  have HD := Lib.hid hdrop
  clear IH hval hm hte hdrop
  go_enter Tryz.func122, Tryz.ntmps122
  go_wp2
  go_loopw [12] (fun kv wr => WKRel w z ob pb b d p m te s rest kv wr) (fun kv _ => te - (intOf kv).toNat)
  case atStart => exact ⟨b, p, U, uc, s, rfl, Lib.hid ⟨HD.out, HTE.out, hbd', rfl⟩, hpt, hS, hok, hbd, hwt, Nat.le_refl _, Stp.refl _ _⟩
  case round =>
    clear hS hok hbd hwt
    obtain ⟨r, q, U, uc, s1, rfl, HQ, hqt, hS, hok, hbd, hwt, hrl, hst⟩ := hrel
    have hsz := hst.size
    by_cases hlt : q < te
    · by_cases hm0 : m = 0
      · subst hm0
        have h0 : (((0 : Nat) : Int) != 0) = false := by simp
        go_wp2
        go_end0
        have hq := HQ.out
        have e : b.run p 0 s = s1 := by rw [hq.2.2.2, run_zero]
        exact ⟨rfl, U, uc, by rw [e]; exact hS, hst⟩
      · have h0 : ((m : Int) != 0) = true := by rw [bne_iff_ne]; omega
        obtain ⟨c0, c1, c2, c3, c4, c5⟩ := hS.cells
        have hBr : z.B ≤ wr.heap.size := by omega
        obtain ⟨lb, off, x, hA, hbB, hx, l0, l1, l2, l3⟩ := hS.run.lst.at_ (show q < z.l.length by omega)
        rw [hA] at c0
        have HX := Lib.hid hx
        have HA := Lib.hid hA
        have hgl := hS.run.glt
        have hql : (q : Int) < (z.l.length : Int) := by omega
        have hql2 : q < z.l.length := by omega
        have hbl : s1.beats.length ≤ 1000000000 := by omega
        have hbB2 : lb < wr.heap.size := by omega
        have hX1 := Ext.alloc wr (.cells #[.int .i64 x.op, .int .i64 x.a, .int .i64 x.b, .int .i64 x.c] 57)
        have HB4 := Lib.hid (heap_alloc_new wr (.cells #[.int .i64 x.op, .int .i64 x.a, .int .i64 x.b, .int .i64 x.c] 57))
        have HS4 := Lib.hid (hS.ext hX1 hBr)
        have HST := Lib.hid (hst.trans (Stp.of_ext hX1 hBr))
        clear hx hA hm0 c2 c3 c4 c5 hX1
        go_wp2_with fail
        refine (l4Opens_c x _).mono ?_
        rintro e w5 ⟨rfl, hb5⟩
        have hX5 := Ext.of_below hb5
        have hBr4 : z.B ≤ (wr.alloc (.cells #[.int .i64 x.op, .int .i64 x.a, .int .i64 x.b, .int .i64 x.c] 57)).heap.size := by simp; omega
        have hS5 := HS4.out.ext hX5 hBr4
        have hst5 := HST.out.trans (Stp.of_ext hX5 hBr4)
        have HB5 := Lib.hid (hX5.heap_ HB4.out)
        have hok5 := hok.beat q m
        have hs5 := hst5.size
        clear HB4 HS4 HST hb5 hX5 c0 c1 l0 l1 l2 l3 hBr4 hst hS
        cases r with
        | nil =>
          have hq := HQ.out
          simp [Blk.flat] at hq
          omega
        | op x' r' =>
          have hq := HQ.out
          obtain ⟨hq1, hq2, hq3, hq4⟩ := hq
          obtain ⟨hvx, h1x, h10x, hr'⟩ := hq3
          have hdr := drop_cons hq1
          obtain rfl : x = x' := by have h := HX.out; rw [hdr.1] at h; injection h with h; exact h.symm
          have hop : opB x = false := by simp [opB]; omega
          have hrun : Blk.run (.op x r') q m s1 = r'.run (q + 1) m (execM x m (beat q m s1)) := by
            simp only [Blk.run]; rw [if_neg (by intro e; subst e; simp at h0)]
          have HR := Lib.hid (And.intro (hq4.trans hrun) (And.intro hdr.2.1 (And.intro (show q + 1 + r'.flat.length = te by simp [Blk.flat] at hq2; omega) hr')))
          have hwt' : s1.beats.length + 1 + r'.wt ≤ 1000000000 := by simp only [Blk.wt] at hwt; omega
          have hrl' : r'.flat.length ≤ b.flat.length := by simp [Blk.flat] at hrl; omega
          have hqt' : q + 1 ≤ te := by omega
          have HEX := Lib.hid (execM_pre HM.out n8 x (beat q m s1))
          have hbdE := hbd.op x q m
          have hwtE : (execM x m (beat q m s1)).beats.length + r'.wt ≤ 1000000000 := by rw [execM_beats]; simpa [beat] using hwt'
          generalize execM x m (beat q m s1) = sE at HEX HR hbdE hwtE
          have hb1 : s1.accs.length ≤ 8 * s1.beats.length := hbd.1
          have hb2' : s1.phase ≤ s1.beats.length := hbd.2
          clear hq1 hq2 hq4 hdr hrun hr' hwt hrl HQ
          rw [hop]
          clear hop
          obtain ⟨c0, c1, c2, c3, c4, c5⟩ := hS5.cells
          have d0 := cell_of_heap HB5.out 0
          have d1 := cell_of_heap HB5.out 1
          have d2 := cell_of_heap HB5.out 2
          have d3 := cell_of_heap HB5.out 3
          have hbw5 : wr.heap.size < w5.heap.size := lt_of_block HB5.out
          rw [HA.out] at c0
          replace hS5 : WR w5 z ob pb U uc (beat q m s1) := ⟨hS5.run, hS5.oc, hS5.pc, hS5.acc, hS5.oB, hS5.pB, hS5.pk, hS5.pm⟩
          go_upto_if 102 with (fail)
          go_cut [] from 20 to 175 (fun wx => WR wx z ob pb U uc (pre10 x (beat q m s1)) ∧ Hid (wx.heap[wr.heap.size]? = some (.cells #[.int .i64 x.op, .int .i64 x.a, .int .i64 x.b, .int .i64 x.c] 57 (0, 0))) ∧ Stp z.B w wx)
          case first =>
            cases e10 : x.op == 10 with
            | false =>
              have hpre : pre10 x (beat q m s1) = beat q m s1 := by simp [pre10, e10]
              have HPRE := Lib.hid hpre
              clear hpre
              clear c0 c1 c2 c3 c4 c5 d0 d1 d2 d3
              go_wp2_with fail
              go_meet
              exact ⟨by rw [HPRE.out]; exact hS5, HB5, hst5⟩
            | true =>
              have hpre : pre10 x (beat q m s1) = { beat q m s1 with phase := s1.phase + 1 } := by simp [pre10, e10, beat]
              have HPRE := Lib.hid hpre
              clear hpre
              have hwp : IntKind.i64.wrap ((s1.phase : Int) + 1) = (s1.phase : Int) + 1 := IntWalk.i64_in _ (by omega)
              have f5 := free_of_heap hS5.pc 0
              have hph := hS5.pha (show z.B ≤ w5.heap.size by omega) (s1.phase + 1)
              rw [show ((s1.phase + 1 : Nat) : Int) = (s1.phase : Int) + 1 from rfl] at hph
              have HPH := Lib.hid hph
              clear hph hS5
              go_wp2_with fail
              go_meet
              obtain ⟨hS8, hst8⟩ := HPH.out
              exact ⟨by rw [HPRE.out]; exact hS8, Lib.hid (hst8.code _ _ HB5.out), hst5.trans hst8⟩
          case rest =>
          clear hS5 HB5 hst5 hs5 hbw5 c0 c1 c2 c3 c4 c5 d0 d1 d2 d3
          obtain ⟨hS5, HB5, hst5⟩ := hcut
          have hs5 := hst5.size
          have hbw5 : wr.heap.size < wc.heap.size := lt_of_block HB5.out
          replace hok5 : SOk z.n (pre10 x (beat q m s1)) := hok5.pre10 x
          obtain ⟨c0, c1, c2, c3, c4, c5⟩ := hS5.cells
          have d0 := cell_of_heap HB5.out 0
          have d1 := cell_of_heap HB5.out 1
          have d2 := cell_of_heap HB5.out 2
          have d3 := cell_of_heap HB5.out 3
          have hs2a : (pre10 x (beat q m s1)).accs.length ≤ 8000000000 := by rw [pre10_accs]; show s1.accs.length ≤ _; omega
          have hs2p : (pre10 x (beat q m s1)).phase ≤ 1000000001 := by have := pre10_phase x (beat q m s1); have e : (beat q m s1).phase = s1.phase := rfl; omega
          generalize pre10 x (beat q m s1) = s2 at hS5 hok5 HEX hs2a hs2p c0 c1 c2 c3 c4 c5
          go_wp2
          clear c0 c1 c2 c3 c4 c5 d0 d1 d2 d3
          obtain ⟨wo, rfl⟩ : ∃ wo : World, wo = wr := ⟨_, rfl⟩
          go_loopw [18] (fun nv wn => ∃ (k : Nat) (Uk : Option Addr) (uck : Nat), k ≤ z.n ∧ nv = .int .i64 k ∧ WR wn z ob pb Uk uck (execTo x m s2 k) ∧ SOk z.n (execTo x m s2 k) ∧ Hid (wn.heap[wo.heap.size]? = some (.cells #[.int .i64 x.op, .int .i64 x.a, .int .i64 x.b, .int .i64 x.c] 57 (0, 0))) ∧ Stp z.B w wn) (fun nv _ => z.n - (intOf nv).toNat)
          case atStart => exact ⟨0, _, _, Nat.zero_le _, rfl, hS5, hok5, HB5, hst5⟩
          case round =>
            clear hS5 hok5 HB5 hst5 hs5 hbw5
            obtain ⟨k, Uk, uck, hk, rfl, hSn, hokn, HBn, hstn⟩ := hrel
            obtain ⟨c0, c1, c2, c3, c4, c5⟩ := hSn.cells
            have hakn := execTo_acc x m s2 k
            have hphn := execTo_phase x m s2 k
            by_cases hkn : k < z.n
            · have hbt := bit_tm m k
              have hex1 : execTo x m s2 (k + 1) = if m.testBit k then exec1 x (execTo x m s2 k) k else execTo x m s2 k := rfl
              have HE1 := Lib.hid hex1
              clear hex1
              generalize execTo x m s2 k = sk at *
              have hphb : sk.phase ≤ 1000000001 := by omega
              clear hphn
              cases hb : m.testBit k with
              | false =>
                rw [hb] at hbt
                have HB := Lib.hid hb
                clear hb c0 c2 c3 c4 c5
                go_wp2
                go_roundw
                case rel => exact ⟨k + 1, _, _, by omega, by go_num, by rw [HE1.out, HB.out]; exact hSn, by rw [HE1.out, HB.out]; exact hokn, HBn, hstn⟩
                case measure => simp [intOf]; omega
              | true =>
                rw [hb] at hbt
                have HB := Lib.hid hb
                have hrow := hSn.run.rowAt hkn
                have d0 := cell_of_heap HBn.out 0
                have d1 := cell_of_heap HBn.out 1
                have d2 := cell_of_heap HBn.out 2
                have d3 := cell_of_heap HBn.out 3
                have hkI : (k : Int) < (z.n : Int) := by omega
                have hszn := hstn.size
                have hBn : z.B ≤ wr.heap.size := by omega
                clear hb c0
                go_upto_region 24 with (fail)
                go_cut [129] from 109 to 175 (fun v wx => v = .bool (memOp x) ∧ wr = wx)
                case first =>
                  have h3 : ((x.op == 8) = true ∧ memOp x = true) ∨ ((x.op == 8) = false ∧ (x.op == 9) = true ∧ memOp x = true) ∨ ((x.op == 8) = false ∧ (x.op == 9) = false ∧ memOp x = false) := by
                    unfold memOp
                    cases (x.op == 8) <;> cases (x.op == 9) <;> simp
                  clear c1 c2 c3 c4 c5 hrow
                  rcases h3 with ⟨e8, em⟩ | ⟨e8, e9, em⟩ | ⟨e8, e9, em⟩
                  · have HEM := Lib.hid em
                    clear em
                    go_wp2_with fail
                    go_meet
                    exact ⟨by rw [HEM.out], rfl⟩
                  · have HEM := Lib.hid em
                    clear em
                    go_wp2_with fail
                    go_meet
                    exact ⟨by rw [HEM.out], rfl⟩
                  · have HEM := Lib.hid em
                    clear em
                    go_wp2_with fail
                    go_meet
                    exact ⟨by rw [HEM.out], rfl⟩
                case rest =>
                obtain ⟨rfl, hwc⟩ := hcut
                subst hwc
                go_upto_if 129 with (fail)
                go_cut [] from 109 to 175 (fun wx => ∃ (U' : Option Addr) (uc' : Nat), WR wx z ob pb U' uc' (noteA x sk k) ∧ Hid (wx.heap[wo.heap.size]? = some (.cells #[.int .i64 x.op, .int .i64 x.a, .int .i64 x.b, .int .i64 x.c] 57 (0, 0))) ∧ Stp z.B w wx)
                case first =>
                  cases hmo : memOp x with
                  | false =>
                    have hna : noteA x sk k = sk := by unfold noteA; rw [hmo]; rfl
                    have HNA := Lib.hid hna
                    clear hna hmo c1 c2 c3 c4 c5 hrow d0 d1 d2 d3
                    go_wp2_with fail
                    go_meet
                    exact ⟨_, _, by rw [HNA.out]; exact hSn, HBn, hstn⟩
                  | true =>
                    have hrg := hokn.get hkn
                    have hb2 := cvOk_b2 hvx (show x.op = 3 ∨ x.op = 4 ∨ x.op = 5 ∨ x.op = 6 ∨ x.op = 7 ∨ x.op = 8 ∨ x.op = 9 by
                      simp [memOp] at hmo; omega)
                    obtain ⟨xb, hxb⟩ := Int.eq_ofNat_of_zero_le hb2.1
                    have hreg := (OI.at0 (hSn.inn hkn)).1 xb _ (rg_get hrg.1 (show xb ≤ 3 by omega))
                    have hrw := rg_word hrg.2 (xb : Int)
                    have hm1 := hokn.mem1
                    have hm2 := hokn.mem2
                    have hxb4 : (xb : Int) < 4 := by omega
                    obtain ⟨rv, hrv⟩ := Int.eq_ofNat_of_zero_le hrw.1
                    have hmod : Int.tmod (rg (sk.regs.getD k []) xb) (sk.mem.length : Int) = ((rv % sk.mem.length : Nat) : Int) := by rw [hrv, Int.tmod_eq_emod_of_nonneg (by omega)]; omega
                    have hkm : rv % sk.mem.length < sk.mem.length := Nat.mod_lt _ (by omega)
                    have hwr : IntKind.i64.wrap (Int.tmod (rg (sk.regs.getD k []) xb) (sk.mem.length : Int)) = ((rv % sk.mem.length : Nat) : Int) := by rw [hmod]; exact IntWalk.i64_in _ (by omega)
                    have hna : noteA x sk k = addAcc ⟨k, rv % sk.mem.length, x.op == 9, sk.phase⟩ sk := by
                      have e : (sk.reg k x.b % sk.mem.length).toNat = rv % sk.mem.length := by unfold LS.reg; rw [hxb, hrv]; omega
                      unfold noteA
                      rw [hmo, if_pos rfl, e]
                    have HNA := Lib.hid hna
                    clear hna
                    generalize hcell : rv % sk.mem.length = cell at *
                    have hmnz : ¬ sk.mem.length = 0 := by omega
                    rw [hxb] at d2
                    clear hxb hcell hrv hkm hrw hmo
                    generalize rg (sk.regs.getD k []) (xb : Int) = rb at *
                    obtain ⟨q9, hq9⟩ : ∃ q9, (x.op == 9) = q9 := ⟨_, rfl⟩
                    rw [hq9] at HNA
                    have HA := Lib.hid (hSn.acc.alloc (.cells #[.int .i64 k, .int .i64 cell, .bool q9, .int .i64 sk.phase] 118))
                    have hal : sk.accs.length ≤ 1000000000000 - 1 := by omega
                    have HI := Lib.hid hSn
                    clear hm1 hm2 hrg
                    obtain ⟨i0, hi0, hz0, hz1, hz2⟩ := info_parts infoAcc
                    have hX := Ext.alloc wr (.cells #[.int .i64 k, .int .i64 cell, .bool q9, .int .i64 sk.phase] 118)
                    have HF := Lib.hid (fun (U' : Option Addr) (uc' : Nat) (w3 : World) (hg : (wr.alloc (.cells #[.int .i64 k, .int .i64 cell, .bool q9, .int .i64 sk.phase] 118)).grownBy w3 (Value.ownBlock (.slice Uk sk.accs.length uck))) (ho : OR w3 z.B 118 4 U' (sk.accs.length + 1) uc' (accsV sk.accs ++ [.int .i64 k, .int .i64 cell, .bool q9, .int .i64 sk.phase])) => HI.out.acc_ (q := ⟨k, cell, q9, sk.phase⟩) hX hBn hg ho)
                    have hnew := heap_alloc_new wr (.cells #[.int .i64 k, .int .i64 cell, .bool q9, .int .i64 sk.phase] 118)
                    have HOR := Lib.hid (OR.drew HA.out)
                    have hobl := lt_of_block HI.out.oc
                    have HCL := Lib.hid (show ∀ w3 : World, (wr.alloc (.cells #[.int .i64 k, .int .i64 cell, .bool q9, .int .i64 sk.phase] 118)).grownBy w3 (Value.ownBlock (.slice Uk sk.accs.length uck)) →
                        w3.cell? ⟨z.g, 2, none⟩ = some (.slice (some ⟨z.rg, 0, none⟩) z.n z.rc) ∧ w3.cell? ⟨z.g, 3, none⟩ = some (.slice (some ⟨z.mb, 0, none⟩) sk.mem.length z.mc) ∧ w3.cell? ⟨pb, 0, none⟩ = some (.int .i64 sk.phase) ∧
                        w3.cell? ⟨z.rg, k, none⟩ = some (.slice (some ⟨z.rk k, 0, none⟩) 4 4) ∧ w3.cell? ⟨z.rk k, xb, none⟩ = some (.int .i64 rb) ∧ w3.cell? ⟨wo.heap.size, 0, none⟩ = some (.int .i64 x.op) ∧ w3.cell? ⟨wo.heap.size, 2, none⟩ = some (.int .i64 xb) ∧
                        w3.frozen? ⟨ob, 0, none⟩ = false ∧ w3.cell? ⟨ob, 0, none⟩ = some (.slice Uk sk.accs.length uck) from fun w3 hg => by
                      have b1 := hX.heap_ HI.out.run.blk
                      obtain ⟨cu2, b2⟩ := OR.heap_ HI.out.run.out
                      replace b2 := hX.heap_ b2
                      obtain ⟨cu3, b3⟩ := OR.heap_ (HI.out.inn hkn)
                      replace b3 := hX.heap_ b3
                      have b4 := hX.heap_ HBn.out
                      have b5 := hX.heap_ HI.out.pc
                      have b6 := hX.heap_ HI.out.oc
                      refine ⟨?_, ?_, ?_, ?_, ?_, ?_, ?_, grown_free HA.out hg b6 (by decide) 0, ?_⟩
                      · rw [grown_cell HA.out hg b1 (by decide)]; exact hX.cell c2
                      · rw [grown_cell HA.out hg b1 (by decide)]; exact hX.cell c3
                      · rw [grown_cell HA.out hg b5 (by decide)]; exact hX.cell c5
                      · rw [grown_cell HA.out hg b2 (by decide)]; exact hX.cell hrow
                      · rw [grown_cell HA.out hg b3 (by decide)]; exact hX.cell hreg
                      · rw [grown_cell HA.out hg b4 (by decide)]; exact hX.cell d0
                      · rw [grown_cell HA.out hg b4 (by decide)]; exact hX.cell d2
                      · rw [grown_cell HA.out hg b6 (by decide)]; exact hX.cell c4)
                    have n1 : ob ≠ z.g := type_ne HI.out.oc HI.out.run.blk (by decide)
                    have n2 : ob ≠ pb := type_ne HI.out.oc HI.out.pc (by decide)
                    have n3 : ob ≠ z.rg := by
                      obtain ⟨cu2, b2⟩ := OR.heap_ HI.out.run.out
                      exact type_ne HI.out.oc b2 (by decide)
                    have n4 : ob ≠ z.rk k := by
                      obtain ⟨cu2, b2⟩ := OR.heap_ (HI.out.inn hkn)
                      exact type_ne HI.out.oc b2 (by decide)
                    have n5 : ob ≠ wo.heap.size := type_ne HI.out.oc HBn.out (by decide)
                    clear hX hSn
                    go_wp2_with fail
                    refine wp_region_held_drew (S := (fun w' => w'.cell? ⟨z.g, 2, none⟩ = some (.slice (some ⟨z.rg, 0, none⟩) z.n z.rc) ∧ w'.cell? ⟨z.g, 3, none⟩ = some (.slice (some ⟨z.mb, 0, none⟩) sk.mem.length z.mc) ∧ w'.cell? ⟨pb, 0, none⟩ = some (.int .i64 sk.phase) ∧ w'.cell? ⟨z.rg, k, none⟩ = some (.slice (some ⟨z.rk k, 0, none⟩) 4 4) ∧ w'.cell? ⟨z.rk k, xb, none⟩ = some (.int .i64 rb) ∧ w'.cell? ⟨wo.heap.size, 0, none⟩ = some (.int .i64 x.op) ∧ w'.cell? ⟨wo.heap.size, 2, none⟩ = some (.int .i64 xb))) (by kernel_rfl) ?_ (fun hHeld => ?_)
                    · (try dsimp only); (first | (exact keep_acw n1 n2 n3 n4 n5 ⟨z1, z2, z3, z4, z5, z6, z7⟩) | go_keep | fail)
                    refine wpAnyH_take (i := 0) (v := ?_) rfl (by decide +kernel) (by decide +kernel) (by decide +kernel) (fun _ _ _ h => h) (Or.inl ⟨by rfl, ?_⟩) (by assumption) ?_
                    rotate_left
                    · (intro w hSw; (try dsimp only at hSw); (try dsimp only [List.getElem_toArray, List.getElem_cons_succ, List.getElem_cons_zero]); go_simp)
                      try with_reducible rfl
                    try simp only [List.getElem_toArray, List.getElem_cons_succ, List.getElem_cons_zero, Act.put, List.setIfInBounds_toArray, List.set_cons_zero, List.set_cons_succ]
                    refine wpAnyH_take (i := 1) (v := ?_) rfl (by decide +kernel) (by decide +kernel) (by decide +kernel) (fun _ _ _ h => h) (Or.inl ⟨by rfl, ?_⟩) (by assumption) ?_
                    rotate_left
                    · (intro w hSw; (try dsimp only at hSw); (try dsimp only [List.getElem_toArray, List.getElem_cons_succ, List.getElem_cons_zero]); go_simp)
                      try with_reducible rfl
                    try simp only [List.getElem_toArray, List.getElem_cons_succ, List.getElem_cons_zero, Act.put, List.setIfInBounds_toArray, List.set_cons_zero, List.set_cons_succ]
                    refine wpAnyH_take (i := 2) (v := ?_) rfl (by decide +kernel) (by decide +kernel) (by decide +kernel) (fun _ _ _ h => h) (Or.inl ⟨by rfl, ?_⟩) (by assumption) ?_
                    rotate_left
                    · (intro w hSw; (try dsimp only at hSw); (try dsimp only [List.getElem_toArray, List.getElem_cons_succ, List.getElem_cons_zero]); go_simp)
                      try with_reducible rfl
                    try simp only [List.getElem_toArray, List.getElem_cons_succ, List.getElem_cons_zero, Act.put, List.setIfInBounds_toArray, List.set_cons_zero, List.set_cons_succ]
                    refine wpAnyH_take (i := 4) (v := ?_) rfl (by decide +kernel) (by decide +kernel) (by decide +kernel) (fun _ _ _ h => h) (Or.inl ⟨by rfl, ?_⟩) (by assumption) ?_
                    rotate_left
                    · (intro w hSw; (try dsimp only at hSw); (try dsimp only [List.getElem_toArray, List.getElem_cons_succ, List.getElem_cons_zero]); go_simp)
                      try with_reducible rfl
                    try simp only [List.getElem_toArray, List.getElem_cons_succ, List.getElem_cons_zero, Act.put, List.setIfInBounds_toArray, List.set_cons_zero, List.set_cons_succ]
                    refine wpAnyH_take (i := 5) (v := ?_) rfl (by decide +kernel) (by decide +kernel) (by decide +kernel) (fun _ _ _ h => h) (Or.inl ⟨by rfl, ?_⟩) (by assumption) ?_
                    rotate_left
                    · (intro w hSw; (try dsimp only at hSw); (try dsimp only [List.getElem_toArray, List.getElem_cons_succ, List.getElem_cons_zero]); go_simp)
                      try with_reducible rfl
                    try simp only [List.getElem_toArray, List.getElem_cons_succ, List.getElem_cons_zero, Act.put, List.setIfInBounds_toArray, List.set_cons_zero, List.set_cons_succ]
                    refine wpAnyH_take (i := 6) (v := ?_) rfl (by decide +kernel) (by decide +kernel) (by decide +kernel) (fun _ _ _ h => h) (Or.inl ⟨by rfl, ?_⟩) (by assumption) ?_
                    rotate_left
                    · (intro w hSw; (try dsimp only at hSw); (try dsimp only [List.getElem_toArray, List.getElem_cons_succ, List.getElem_cons_zero]); go_simp)
                      try with_reducible rfl
                    try simp only [List.getElem_toArray, List.getElem_cons_succ, List.getElem_cons_zero, Act.put, List.setIfInBounds_toArray, List.set_cons_zero, List.set_cons_succ]
                    refine wpAnyH_take (i := 7) (v := ?_) rfl (by decide +kernel) (by decide +kernel) (by decide +kernel) (fun _ _ _ h => h) (Or.inl ⟨by rfl, ?_⟩) (by assumption) ?_
                    rotate_left
                    · (intro w hSw; (try dsimp only at hSw); (try dsimp only [List.getElem_toArray, List.getElem_cons_succ, List.getElem_cons_zero]); go_simp)
                      try with_reducible rfl
                    try simp only [List.getElem_toArray, List.getElem_cons_succ, List.getElem_cons_zero, Act.put, List.setIfInBounds_toArray, List.set_cons_zero, List.set_cons_succ]
                    refine wpAnyH_take (i := 8) (v := ?_) rfl (by decide +kernel) (by decide +kernel) (by decide +kernel) (fun _ _ _ h => h) (Or.inl ⟨by rfl, ?_⟩) (by assumption) ?_
                    rotate_left
                    · (intro w hSw; (try dsimp only at hSw); (try dsimp only [List.getElem_toArray, List.getElem_cons_succ, List.getElem_cons_zero]); go_simp)
                      try with_reducible rfl
                    try simp only [List.getElem_toArray, List.getElem_cons_succ, List.getElem_cons_zero, Act.put, List.setIfInBounds_toArray, List.set_cons_zero, List.set_cons_succ]
                    refine wpAnyH_take (i := 9) (v := ?_) rfl (by decide +kernel) (by decide +kernel) (by decide +kernel) (fun _ _ _ h => h) (Or.inl ⟨by rfl, ?_⟩) (by assumption) ?_
                    rotate_left
                    · (intro w hSw; (try dsimp only at hSw); (try dsimp only [List.getElem_toArray, List.getElem_cons_succ, List.getElem_cons_zero]); go_simp)
                      try with_reducible rfl
                    try simp only [List.getElem_toArray, List.getElem_cons_succ, List.getElem_cons_zero, Act.put, List.setIfInBounds_toArray, List.set_cons_zero, List.set_cons_succ]
                    refine wpAnyH_take (i := 10) (v := ?_) rfl (by decide +kernel) (by decide +kernel) (by decide +kernel) (fun _ _ _ h => h) (Or.inl ⟨by rfl, ?_⟩) (by assumption) ?_
                    rotate_left
                    · (intro w hSw; (try dsimp only at hSw); (try dsimp only [List.getElem_toArray, List.getElem_cons_succ, List.getElem_cons_zero]); go_simp)
                      try with_reducible rfl
                    try simp only [List.getElem_toArray, List.getElem_cons_succ, List.getElem_cons_zero, Act.put, List.setIfInBounds_toArray, List.set_cons_zero, List.set_cons_succ]
                    refine wpAnyH_take (i := 11) (v := ?_) rfl (by decide +kernel) (by decide +kernel) (by decide +kernel) (fun _ _ _ h => h) (Or.inl ⟨by rfl, ?_⟩) (by assumption) ?_
                    rotate_left
                    · (intro w hSw; (try dsimp only at hSw); (try dsimp only [List.getElem_toArray, List.getElem_cons_succ, List.getElem_cons_zero]); go_simp)
                      try with_reducible rfl
                    try simp only [List.getElem_toArray, List.getElem_cons_succ, List.getElem_cons_zero, Act.put, List.setIfInBounds_toArray, List.set_cons_zero, List.set_cons_succ]
                    refine wpAnyH_take (i := 12) (v := ?_) rfl (by decide +kernel) (by decide +kernel) (by decide +kernel) (fun _ _ _ h => h) (Or.inl ⟨by rfl, ?_⟩) (by assumption) ?_
                    rotate_left
                    · (intro w hSw; (try dsimp only at hSw); (try dsimp only [List.getElem_toArray, List.getElem_cons_succ, List.getElem_cons_zero]); go_simp)
                      try with_reducible rfl
                    try simp only [List.getElem_toArray, List.getElem_cons_succ, List.getElem_cons_zero, Act.put, List.setIfInBounds_toArray, List.set_cons_zero, List.set_cons_succ]
                    refine wpAnyH_take (i := 13) (v := ?_) rfl (by decide +kernel) (by decide +kernel) (by decide +kernel) (fun _ _ _ h => h) (Or.inl ⟨by rfl, ?_⟩) (by assumption) ?_
                    rotate_left
                    · (intro w hSw; (try dsimp only at hSw); (try dsimp only [List.getElem_toArray, List.getElem_cons_succ, List.getElem_cons_zero]); go_simp)
                      try with_reducible rfl
                    try simp only [List.getElem_toArray, List.getElem_cons_succ, List.getElem_cons_zero, Act.put, List.setIfInBounds_toArray, List.set_cons_zero, List.set_cons_succ]
                    refine wpAnyH_take (i := 14) (v := ?_) rfl (by decide +kernel) (by decide +kernel) (by decide +kernel) (fun _ _ _ h => h) (Or.inl ⟨by rfl, ?_⟩) (by assumption) ?_
                    rotate_left
                    · (intro w hSw; (try dsimp only at hSw); (try dsimp only [List.getElem_toArray, List.getElem_cons_succ, List.getElem_cons_zero]); go_simp)
                      try with_reducible rfl
                    try simp only [List.getElem_toArray, List.getElem_cons_succ, List.getElem_cons_zero, Act.put, List.setIfInBounds_toArray, List.set_cons_zero, List.set_cons_succ]
                    refine wpAnyH_take (i := 15) (v := ?_) rfl (by decide +kernel) (by decide +kernel) (by decide +kernel) (fun _ _ _ h => h) (Or.inl ⟨by rfl, ?_⟩) (by assumption) ?_
                    rotate_left
                    · (intro w hSw; (try dsimp only at hSw); (try dsimp only [List.getElem_toArray, List.getElem_cons_succ, List.getElem_cons_zero]); go_simp)
                      try with_reducible rfl
                    try simp only [List.getElem_toArray, List.getElem_cons_succ, List.getElem_cons_zero, Act.put, List.setIfInBounds_toArray, List.set_cons_zero, List.set_cons_succ]
                    refine wpAnyH_take (i := 16) (v := ?_) rfl (by decide +kernel) (by decide +kernel) (by decide +kernel) (fun _ _ _ h => h) (Or.inl ⟨by rfl, ?_⟩) (by assumption) ?_
                    rotate_left
                    · (intro w hSw; (try dsimp only at hSw); (try dsimp only [List.getElem_toArray, List.getElem_cons_succ, List.getElem_cons_zero]); go_simp)
                      try with_reducible rfl
                    try simp only [List.getElem_toArray, List.getElem_cons_succ, List.getElem_cons_zero, Act.put, List.setIfInBounds_toArray, List.set_cons_zero, List.set_cons_succ]
                    refine wpAnyH_take (i := 17) (v := ?_) rfl (by decide +kernel) (by decide +kernel) (by decide +kernel) (fun _ _ _ h => h) (Or.inl ⟨by rfl, ?_⟩) (by assumption) ?_
                    rotate_left
                    · (intro w hSw; (try dsimp only at hSw); (try dsimp only [List.getElem_toArray, List.getElem_cons_succ, List.getElem_cons_zero]); go_simp)
                      try with_reducible rfl
                    try simp only [List.getElem_toArray, List.getElem_cons_succ, List.getElem_cons_zero, Act.put, List.setIfInBounds_toArray, List.set_cons_zero, List.set_cons_succ]
                    refine wpAnyH_take (i := 18) (v := ?_) rfl (by decide +kernel) (by decide +kernel) (by decide +kernel) (fun _ _ _ h => h) (Or.inl ⟨by rfl, ?_⟩) (by assumption) ?_
                    rotate_left
                    · (intro w hSw; (try dsimp only at hSw); (try dsimp only [List.getElem_toArray, List.getElem_cons_succ, List.getElem_cons_zero]); go_simp)
                      try with_reducible rfl
                    try simp only [List.getElem_toArray, List.getElem_cons_succ, List.getElem_cons_zero, Act.put, List.setIfInBounds_toArray, List.set_cons_zero, List.set_cons_succ]
                    refine wpAnyH_take (i := 19) (v := ?_) rfl (by decide +kernel) (by decide +kernel) (by decide +kernel) (fun _ _ _ h => h) (Or.inl ⟨by rfl, ?_⟩) (by assumption) ?_
                    rotate_left
                    · (intro w hSw; (try dsimp only at hSw); (try dsimp only [List.getElem_toArray, List.getElem_cons_succ, List.getElem_cons_zero]); go_simp)
                      try with_reducible rfl
                    try simp only [List.getElem_toArray, List.getElem_cons_succ, List.getElem_cons_zero, Act.put, List.setIfInBounds_toArray, List.set_cons_zero, List.set_cons_succ]
                    refine wpAnyH_take (i := 20) (v := ?_) rfl (by decide +kernel) (by decide +kernel) (by decide +kernel) (fun _ _ _ h => h) (Or.inl ⟨by rfl, ?_⟩) (by assumption) ?_
                    rotate_left
                    · (intro w hSw; (try dsimp only at hSw); (try dsimp only [List.getElem_toArray, List.getElem_cons_succ, List.getElem_cons_zero]); go_simp)
                      try with_reducible rfl
                    try simp only [List.getElem_toArray, List.getElem_cons_succ, List.getElem_cons_zero, Act.put, List.setIfInBounds_toArray, List.set_cons_zero, List.set_cons_succ]
                    refine wpAnyH_take (i := 21) (v := ?_) rfl (by decide +kernel) (by decide +kernel) (by decide +kernel) (fun _ _ _ h => h) (Or.inl ⟨by rfl, ?_⟩) (by assumption) ?_
                    rotate_left
                    · (intro w hSw; (try dsimp only at hSw); (try dsimp only [List.getElem_toArray, List.getElem_cons_succ, List.getElem_cons_zero]); go_simp)
                      try with_reducible rfl
                    try simp only [List.getElem_toArray, List.getElem_cons_succ, List.getElem_cons_zero, Act.put, List.setIfInBounds_toArray, List.set_cons_zero, List.set_cons_succ]
                    refine wpAnyH_take (i := 22) (v := ?_) rfl (by decide +kernel) (by decide +kernel) (by decide +kernel) (fun _ _ _ h => h) (Or.inl ⟨by rfl, ?_⟩) (by assumption) ?_
                    rotate_left
                    · (intro w hSw; (try dsimp only at hSw); (try dsimp only [List.getElem_toArray, List.getElem_cons_succ, List.getElem_cons_zero]); go_simp)
                      try with_reducible rfl
                    try simp only [List.getElem_toArray, List.getElem_cons_succ, List.getElem_cons_zero, Act.put, List.setIfInBounds_toArray, List.set_cons_zero, List.set_cons_succ]
                    refine wpAnyH_take (i := 23) (v := ?_) rfl (by decide +kernel) (by decide +kernel) (by decide +kernel) (fun _ _ _ h => h) (Or.inl ⟨by rfl, ?_⟩) (by assumption) ?_
                    rotate_left
                    · (intro w hSw; (try dsimp only at hSw); (try dsimp only [List.getElem_toArray, List.getElem_cons_succ, List.getElem_cons_zero]); go_simp)
                      try with_reducible rfl
                    try simp only [List.getElem_toArray, List.getElem_cons_succ, List.getElem_cons_zero, Act.put, List.setIfInBounds_toArray, List.set_cons_zero, List.set_cons_succ]
                    refine wpAnyH_take (i := 24) (v := ?_) rfl (by decide +kernel) (by decide +kernel) (by decide +kernel) (fun _ _ _ h => h) (Or.inl ⟨by rfl, ?_⟩) (by assumption) ?_
                    rotate_left
                    · (intro w hSw; (try dsimp only at hSw); (try dsimp only [List.getElem_toArray, List.getElem_cons_succ, List.getElem_cons_zero]); go_simp)
                      try with_reducible rfl
                    try simp only [List.getElem_toArray, List.getElem_cons_succ, List.getElem_cons_zero, Act.put, List.setIfInBounds_toArray, List.set_cons_zero, List.set_cons_succ]
                    refine wpAnyH_take (i := 25) (v := ?_) rfl (by decide +kernel) (by decide +kernel) (by decide +kernel) (fun _ _ _ h => h) (Or.inl ⟨by rfl, ?_⟩) (by assumption) ?_
                    rotate_left
                    · (intro w hSw; (try dsimp only at hSw); (try dsimp only [List.getElem_toArray, List.getElem_cons_succ, List.getElem_cons_zero]); go_simp)
                      try with_reducible rfl
                    try simp only [List.getElem_toArray, List.getElem_cons_succ, List.getElem_cons_zero, Act.put, List.setIfInBounds_toArray, List.set_cons_zero, List.set_cons_succ]
                    refine wpAnyH_take (i := 26) (v := ?_) rfl (by decide +kernel) (by decide +kernel) (by decide +kernel) (fun _ _ _ h => h) (Or.inl ⟨by rfl, ?_⟩) (by assumption) ?_
                    rotate_left
                    · (intro w hSw; (try dsimp only at hSw); (try dsimp only [List.getElem_toArray, List.getElem_cons_succ, List.getElem_cons_zero]); go_simp)
                      try with_reducible rfl
                    try simp only [List.getElem_toArray, List.getElem_cons_succ, List.getElem_cons_zero, Act.put, List.setIfInBounds_toArray, List.set_cons_zero, List.set_cons_succ]
                    refine wpAnyH_take (i := 27) (v := ?_) rfl (by decide +kernel) (by decide +kernel) (by decide +kernel) (fun _ _ _ h => h) (Or.inl ⟨by rfl, ?_⟩) (by assumption) ?_
                    rotate_left
                    · (intro w hSw; (try dsimp only at hSw); (try dsimp only [List.getElem_toArray, List.getElem_cons_succ, List.getElem_cons_zero]); go_simp)
                      try with_reducible rfl
                    try simp only [List.getElem_toArray, List.getElem_cons_succ, List.getElem_cons_zero, Act.put, List.setIfInBounds_toArray, List.set_cons_zero, List.set_cons_succ]
                    refine wpAnyH_take (i := 28) (v := ?_) rfl (by decide +kernel) (by decide +kernel) (by decide +kernel) (fun _ _ _ h => h) (Or.inl ⟨by rfl, ?_⟩) (by assumption) ?_
                    rotate_left
                    · (intro w hSw; (try dsimp only at hSw); (try dsimp only [List.getElem_toArray, List.getElem_cons_succ, List.getElem_cons_zero]); go_simp)
                      try with_reducible rfl
                    try simp only [List.getElem_toArray, List.getElem_cons_succ, List.getElem_cons_zero, Act.put, List.setIfInBounds_toArray, List.set_cons_zero, List.set_cons_succ]
                    refine wpAnyH_ready (rs := [3, 29]) (by kernel_rfl) (by simp) ?_
                    refine AllReadyH.cons rfl (fun K hK => ?_) (AllReadyH.cons rfl (fun K hK => ?_) AllReadyH.nil)
                    rotate_left
                    try dsimp only [List.getElem_toArray, List.getElem_cons_succ, List.getElem_cons_zero]
                    go_simp
                    clear hHeld
                    refine hK.out _ _ ?_ (fun hHeld => ?_)
                    · (try dsimp only); (first | done | (first | (exact keep_acw n1 n2 n3 n4 n5 ⟨z1, z2, z3, z4, z5, z6, z7⟩) | go_keep | fail))
                    clear hK K
                    try simp only [List.getElem_toArray, List.getElem_cons_succ, List.getElem_cons_zero, Act.put, List.setIfInBounds_toArray, List.set_cons_zero, List.set_cons_succ]
                    refine wpAnyH_ready (rs := [3]) (by kernel_rfl) (by simp) ?_
                    refine AllReadyH.cons rfl (fun K hK => ?_) AllReadyH.nil
                    try dsimp only [List.getElem_toArray, List.getElem_cons_succ, List.getElem_cons_zero]
                    go_simp
                    clear hHeld
                    refine hK.out _ _ ?_ (fun hHeld => ?_)
                    · (try dsimp only); (first | done | (first | (exact keep_acw n1 n2 n3 n4 n5 ⟨z1, z2, z3, z4, z5, z6, z7⟩) | go_keep | fail))
                    clear hK K
                    try simp only [List.getElem_toArray, List.getElem_cons_succ, List.getElem_cons_zero, Act.put, List.setIfInBounds_toArray, List.set_cons_zero, List.set_cons_succ]
                    refine wpAnyH_ready (rs := [30]) (by kernel_rfl) (by simp) ?_
                    refine AllReadyH.cons rfl (fun K hK => ?_) AllReadyH.nil
                    ((refine step_append_lies _ (by rfl) _ _ _ (by rfl) z.B 118 i0 _ 4 32 Tryz.underlying89 hi0 hz0 hz1 hz2 rfl (by omega) (.slice Uk sk.accs.length uck) sk.accs.length _ (by rfl) HOR.out ⟨wr.heap.size, 0, none⟩ 1 1 [.int .i64 k, .int .i64 cell, .bool q9, .int .i64 sk.phase] (by rfl) (by rfl) (World.news_of_block (cs := #[.int .i64 k, .int .i64 cell, .bool q9, .int .i64 sk.phase]) (t := 118) (fr := (0, 0)) hnew) (by simp [Value.oneCell']) (by omega) (by unfold maxLen; omega) (by omega) (by simp; omega) (wr.heap.size + 1) (by simp) ?_; intro gg cap w3 ho3 hgrow hat hlt3; obtain ⟨z1, z2, z3, z4, z5, z6, z7, z8, z9⟩ := HCL.out w3 (grown_drew2' hgrow)))
                    clear hHeld
                    refine hK.out _ _ ?_ (fun hHeld => ?_)
                    · (try dsimp only); (first | done | (first | (exact keep_acw n1 n2 n3 n4 n5 ⟨z1, z2, z3, z4, z5, z6, z7⟩) | go_keep | fail))
                    clear hK K
                    try simp only [List.getElem_toArray, List.getElem_cons_succ, List.getElem_cons_zero, Act.put, List.setIfInBounds_toArray, List.set_cons_zero, List.set_cons_succ]
                    refine wpAnyH_take (i := 31) (v := ?_) rfl (by decide +kernel) (by decide +kernel) (by decide +kernel) (fun _ _ _ h => h) (Or.inl ⟨by rfl, ?_⟩) (by assumption) ?_
                    rotate_left
                    · (intro w hSw; (try dsimp only at hSw); (try dsimp only [List.getElem_toArray, List.getElem_cons_succ, List.getElem_cons_zero]); go_simp)
                      try with_reducible rfl
                    try simp only [List.getElem_toArray, List.getElem_cons_succ, List.getElem_cons_zero, Act.put, List.setIfInBounds_toArray, List.set_cons_zero, List.set_cons_succ]
                    refine wpAnyH_ready (rs := [32]) (by kernel_rfl) (by simp) ?_
                    refine AllReadyH.cons rfl (fun K hK => ?_) AllReadyH.nil
                    try dsimp only [List.getElem_toArray, List.getElem_cons_succ, List.getElem_cons_zero]
                    go_simp
                    clear hHeld
                    refine hK.out _ _ ?_ (fun hHeld => ?_)
                    · (try dsimp only); (first | done | (first | (exact keep_acw n1 n2 n3 n4 n5 ⟨z1, z2, z3, z4, z5, z6, z7⟩) | go_keep | fail))
                    clear hK K
                    try simp only [List.getElem_toArray, List.getElem_cons_succ, List.getElem_cons_zero, Act.put, List.setIfInBounds_toArray, List.set_cons_zero, List.set_cons_succ]
                    refine wpAnyH_done (by kernel_rfl) ?_ _
                    rotate_left
                    try dsimp only [List.getElem_toArray, List.getElem_cons_succ, List.getElem_cons_zero]
                    go_simp
                    clear hHeld
                    refine hK.out _ _ ?_ (fun hHeld => ?_)
                    · (try dsimp only); (first | done | (first | (exact keep_acw n1 n2 n3 n4 n5 ⟨z1, z2, z3, z4, z5, z6, z7⟩) | go_keep | fail))
                    clear hK K
                    try simp only [List.getElem_toArray, List.getElem_cons_succ, List.getElem_cons_zero, Act.put, List.setIfInBounds_toArray, List.set_cons_zero, List.set_cons_succ]
                    refine wpAnyH_ready (rs := [29]) (by kernel_rfl) (by simp) ?_
                    refine AllReadyH.cons rfl (fun K hK => ?_) AllReadyH.nil
                    try dsimp only [List.getElem_toArray, List.getElem_cons_succ, List.getElem_cons_zero]
                    go_simp
                    clear hHeld
                    refine hK.out _ _ ?_ (fun hHeld => ?_)
                    · (try dsimp only); (first | done | (first | (exact keep_acw n1 n2 n3 n4 n5 ⟨z1, z2, z3, z4, z5, z6, z7⟩) | go_keep | fail))
                    clear hK K
                    try simp only [List.getElem_toArray, List.getElem_cons_succ, List.getElem_cons_zero, Act.put, List.setIfInBounds_toArray, List.set_cons_zero, List.set_cons_succ]
                    refine wpAnyH_ready (rs := [30]) (by kernel_rfl) (by simp) ?_
                    refine AllReadyH.cons rfl (fun K hK => ?_) AllReadyH.nil
                    ((refine step_append_lies _ (by rfl) _ _ _ (by rfl) z.B 118 i0 _ 4 32 Tryz.underlying89 hi0 hz0 hz1 hz2 rfl (by omega) (.slice Uk sk.accs.length uck) sk.accs.length _ (by rfl) HOR.out ⟨wr.heap.size, 0, none⟩ 1 1 [.int .i64 k, .int .i64 cell, .bool q9, .int .i64 sk.phase] (by rfl) (by rfl) (World.news_of_block (cs := #[.int .i64 k, .int .i64 cell, .bool q9, .int .i64 sk.phase]) (t := 118) (fr := (0, 0)) hnew) (by simp [Value.oneCell']) (by omega) (by unfold maxLen; omega) (by omega) (by simp; omega) (wr.heap.size + 1) (by simp) ?_; intro gg cap w3 ho3 hgrow hat hlt3; obtain ⟨z1, z2, z3, z4, z5, z6, z7, z8, z9⟩ := HCL.out w3 (grown_drew2' hgrow)))
                    clear hHeld
                    refine hK.out _ _ ?_ (fun hHeld => ?_)
                    · (try dsimp only); (first | done | (first | (exact keep_acw n1 n2 n3 n4 n5 ⟨z1, z2, z3, z4, z5, z6, z7⟩) | go_keep | fail))
                    clear hK K
                    try simp only [List.getElem_toArray, List.getElem_cons_succ, List.getElem_cons_zero, Act.put, List.setIfInBounds_toArray, List.set_cons_zero, List.set_cons_succ]
                    refine wpAnyH_take (i := 31) (v := ?_) rfl (by decide +kernel) (by decide +kernel) (by decide +kernel) (fun _ _ _ h => h) (Or.inl ⟨by rfl, ?_⟩) (by assumption) ?_
                    rotate_left
                    · (intro w hSw; (try dsimp only at hSw); (try dsimp only [List.getElem_toArray, List.getElem_cons_succ, List.getElem_cons_zero]); go_simp)
                      try with_reducible rfl
                    try simp only [List.getElem_toArray, List.getElem_cons_succ, List.getElem_cons_zero, Act.put, List.setIfInBounds_toArray, List.set_cons_zero, List.set_cons_succ]
                    refine wpAnyH_ready (rs := [32]) (by kernel_rfl) (by simp) ?_
                    refine AllReadyH.cons rfl (fun K hK => ?_) AllReadyH.nil
                    try dsimp only [List.getElem_toArray, List.getElem_cons_succ, List.getElem_cons_zero]
                    go_simp
                    clear hHeld
                    refine hK.out _ _ ?_ (fun hHeld => ?_)
                    · (try dsimp only); (first | done | (first | (exact keep_acw n1 n2 n3 n4 n5 ⟨z1, z2, z3, z4, z5, z6, z7⟩) | go_keep | fail))
                    clear hK K
                    try simp only [List.getElem_toArray, List.getElem_cons_succ, List.getElem_cons_zero, Act.put, List.setIfInBounds_toArray, List.set_cons_zero, List.set_cons_succ]
                    refine wpAnyH_done (by kernel_rfl) ?_ _
                    all_goals
                      clear hHeld
                      obtain ⟨hI4, hst4⟩ := HF.out _ _ _ (grown_drew2' hgrow) ho3
                      have hst5 := hstn.trans hst4
                      have hc4 := Lib.hid (hst4.code _ _ HBn.out)
                      clear hst4
                      go_wp2_with fail
                      go_meet
                      exact ⟨_, _, by rw [HNA.out]; exact hI4, hc4, hst5⟩
                case rest =>
                clear hSn c1 c2 c3 c4 c5 hrow d0 d1 d2 d3
                have hbw := hstn.size
                clear hstn HBn
                obtain ⟨U', uc', hI4, HB4, hst5⟩ := hcut
                have hs4 := hst5.size
                obtain ⟨c0, c1, c2, c3, c4, c5⟩ := hI4.cells
                replace c3 : wc.cell? ⟨z.g, 3, none⟩ = some (.slice (some ⟨z.mb, 0, none⟩) sk.mem.length z.mc) := by rw [noteA_mem] at c3; exact c3
                have hrow := hI4.run.rowAt hkn
                have d0 := cell_of_heap HB4.out 0
                have d1 := cell_of_heap HB4.out 1
                have d2 := cell_of_heap HB4.out 2
                have d3 := cell_of_heap HB4.out 3
                have HI4 := Lib.hid hI4
                clear hI4 c0 c4 c5
                go_wp2_with fail
                go_still_tail 13, (by kernel_rfl)
                go_wp2_with fail
                have hXd : Ext wc wc.drew := Ext.drew wc
                have hBn4 : z.B ≤ wc.heap.size := by omega
                have hId := HI4.out.ext hXd hBn4
                refine (l6Simple_c x k (sk.regs.getD k []) sk.mem z.B (z.rk k) 4 z.mb z.mc sk.mem.length _ hvx h10x (by omega) (by have h := hId.inn hkn; rw [noteA_regs] at h; exact h) (by have h := hId.mem; rw [noteA_mem] at h; exact h) (hId.run.mne k hkn) (hokn.get hkn).2 hokn.memw ⟨hokn.mem1, hokn.mem2⟩).mono ?_
                rintro e w6 ⟨rfl, hs⟩
                obtain ⟨hS6, hst6⟩ := hId.simpX hkn hokn hBn4 hs
                have hst7 := (hst5.trans (Stp.of_ext hXd hBn4)).trans hst6
                have HB6 := Lib.hid (hst6.code _ _ (hXd.heap_ HB4.out))
                have hok6 := hokn.exec1 hvx hkn
                clear hs hXd hId hrow d0 d1 d2 d3 c1 c2 c3 HI4
                go_wp2
                go_roundw
                case rel => exact ⟨k + 1, _, _, by omega, by go_num, by rw [HE1.out, HB.out]; exact hS6, by rw [HE1.out, HB.out]; exact hok6, HB6, hst7⟩
                case measure => simp [intOf]; omega
            · obtain rfl : k = z.n := by omega
              clear c0 c2 c3 c4 c5
              go_wp2
              go_roundw
              case rel =>
                have hr := HR.out
                refine ⟨r', q + 1, Uk, uck, sE, by go_num, Lib.hid ⟨hr.2.1, hr.2.2.1, hr.2.2.2, hr.1⟩, hqt', by rw [HEX.out]; exact hSn, by rw [HEX.out]; exact hokn, hbdE, hwtE, hrl', hstn⟩
              case measure => simp [intOf]; omega
        | iff a t r' =>
          have hq := HQ.out
          obtain ⟨hq1, hq2, hq3, hq4⟩ := hq
          obtain ⟨ha, hd1, ht, hr'⟩ := hq3
          have hq1' : z.l.drop q = cIf a :: (t.flat ++ cEnd :: (r'.flat ++ rest)) := by rw [hq1]; simp [Blk.flat]
          obtain ⟨hend, hdt, hdr⟩ := end_iff ht hq1'
          have hxx := (drop_cons hq1').1
          obtain rfl : x = cIf a := by have h := HX.out; rw [hxx] at h; injection h with h; exact h.symm
          have hop : opB (cIf a) = true := rfl
          have hm0 : ¬ m = 0 := by intro e; subst e; simp at h0
          have hrun : Blk.run (.iff a t r') q m s1 = r'.run (q + t.flat.length + 2) m (t.run (q + 1) (onesOf m a s1) (beat q m s1)) := by
            simp only [Blk.run]; rw [if_neg hm0]
          have hlen : q + t.flat.length + 2 + r'.flat.length = te := by simp [Blk.flat] at hq2; omega
          have HR := Lib.hid (And.intro (hq4.trans hrun) (And.intro hdr (And.intro hlen hr')))
          have hwt1 : s1.beats.length + 1 + t.wt + r'.wt ≤ 1000000000 := by simp only [Blk.wt] at hwt; omega
          have hrl' : r'.flat.length ≤ b.flat.length := by simp [Blk.flat] at hrl; omega
          have htl : t.flat.length < N := by simp [Blk.flat] at hrl; omega
          have hqt' : q + t.flat.length + 2 ≤ te := by omega
          have hml : mdiff m (onesOf m a s1) < 2 ^ z.n := mdiff_lt HM.out
          have hm256 : m < 4611686018427387904 := by omega
          have ho256 : onesOf m a s1 < 4611686018427387904 := by
            have h1 := onesOf_lt HM.out n8 a s1
            have h2 : 2 ^ z.n ≤ 2 ^ 8 := Nat.pow_le_pow_right (by decide) n8
            omega
          have han := bits_andNot64 m (onesOf m a s1) hm256 ho256
          have HAN := Lib.hid han
          have HML := Lib.hid hml
          clear hm256 ho256 hml
          have hol := onesOf_lt HM.out n8 a s1
          have HEND := Lib.hid hend
          have HDT := Lib.hid hdt
          have HT := Lib.hid ht
          have HOL := Lib.hid hol
          have hlen2 : q + t.flat.length + 1 < z.l.length := by omega
          clear hq1 hq1' hq2 hq4 hdr hrun hr' hwt hrl HQ hend hdt ht hol hm0 hxx
          rw [hop]
          clear hop
          obtain ⟨c0, c1, c2, c3, c4, c5⟩ := hS5.cells
          have d0 : w5.cell? ⟨wr.heap.size, 0, none⟩ = some (.int .i64 11) := cell_of_heap HB5.out 0
          have d1 : w5.cell? ⟨wr.heap.size, 1, none⟩ = some (.int .i64 a) := cell_of_heap HB5.out 1
          have hbw5 : wr.heap.size < w5.heap.size := lt_of_block HB5.out
          have hR5 := hS5.run.lst.more (show z.B ≤ w5.heap.size by omega)
          rw [HA.out] at c0 hR5
          go_wp2_with fail
          refine (l4End_c _ z.ca z.l q _ hR5 hl hql2).mono ?_
          rintro e w6 ⟨rfl, hb6⟩
          rw [HEND.out]
          have hX6 := Ext.of_below hb6
          have hS6 := hS5.ext hX6 (by omega)
          have hst6 := hst5.trans (Stp.of_ext hX6 (by omega))
          replace d0 := hX6.cell d0
          replace d1 := hX6.cell d1
          clear c0 c1 c2 c3 c4 c5 hR5 hS5 hst5 hX6 hb6
          go_wp2_with fail
          refine (ones_c hS6.run hok.nbt m HM.out a ha).mono ?_
          rintro e w7 ⟨rfl, rfl⟩
          have hon : onesOf m a (nbt s1) = onesOf m a s1 := rfl
          rw [hon]
          have hbd5 := hbd.beat q m
          replace hS6 : WR w6 z ob pb U uc (beat q m s1) := ⟨hS6.run, hS6.oc, hS6.pc, hS6.acc, hS6.oB, hS6.pB, hS6.pk, hS6.pm⟩
          go_wp2_with fail
          refine (HIH.out t.flat.length htl t (d - 1) (Nat.le_refl _) HT.out w6 z ob pb U uc (beat q m s1) (q + 1) (onesOf m a s1) (q + t.flat.length + 1) _ _ _ (cEnd :: (r'.flat ++ rest)) hS6 hok5 hbd5 HOL.out HDT.out (by omega) hl (by omega) (by have := hst6.size; omega) (by simp [beat]; omega) HV.out (by omega) (by first | rfl | omega) rfl).mono ?_
          rintro e w8 ⟨rfl, U3, uc3, hS8, hst8⟩
          replace hst6 := hst6.trans hst8
          have hok8 := run_ok t (d - 1) (q + 1) (onesOf m a s1) (beat q m s1) HT.out HOL.out hok5
          have hbd8 := run_bd t (q + 1) (onesOf m a s1) (beat q m s1) hbd5
          have hbt := run_beats t (q + 1) (onesOf m a s1) (beat q m s1)
          have hbl1 : (beat q m s1).beats.length = s1.beats.length + 1 := by simp [beat]
          have hwt8 : (t.run (q + 1) (onesOf m a s1) (beat q m s1)).beats.length + r'.wt ≤ 1000000000 := by omega
          clear hbt hbl1 hS6 d0 d1 hst8
          go_wp2_with fail
          refine (watch_none _ _ _ _ _ _ _ (by omega)).mono ?_
          rintro e w9 ⟨rfl, rfl⟩
          go_wp2
          go_roundw
          case rel =>
            have hr := HR.out
            exact ⟨r', q + t.flat.length + 2, U3, uc3, _, by (congr 1; first | done | omega), Lib.hid ⟨hr.2.1, hr.2.2.1, hr.2.2.2, hr.1⟩, hqt', hS8, hok8, hbd8, hwt8, hrl', hst6⟩
          case measure => simp [intOf]; omega
        | ife a t e r' =>
          have hq := HQ.out
          obtain ⟨hq1, hq2, hq3, hq4⟩ := hq
          obtain ⟨ha, hd1, ht, he, hr'⟩ := hq3
          have hq1' : z.l.drop q = cIf a :: (t.flat ++ cElse :: (e.flat ++ cEnd :: (r'.flat ++ rest))) := by rw [hq1]; simp [Blk.flat]
          obtain ⟨hend, hdt, hde, hdr⟩ := end_ife ht he hq1'
          have hxx := (drop_cons hq1').1
          obtain rfl : x = cIf a := by have h := HX.out; rw [hxx] at h; injection h with h; exact h.symm
          have hop : opB (cIf a) = true := rfl
          have hm0 : ¬ m = 0 := by intro e; subst e; simp at h0
          have hrun : Blk.run (.ife a t e r') q m s1 = r'.run (q + t.flat.length + e.flat.length + 3) m (e.run (q + t.flat.length + 2) (mdiff m (onesOf m a s1)) (t.run (q + 1) (onesOf m a s1) (beat q m s1))) := by
            simp only [Blk.run]; rw [if_neg hm0]
          have hlen : q + t.flat.length + e.flat.length + 3 + r'.flat.length = te := by simp [Blk.flat] at hq2; omega
          have HR := Lib.hid (And.intro (hq4.trans hrun) (And.intro hdr (And.intro hlen hr')))
          have hwt1 : s1.beats.length + 1 + t.wt + e.wt + r'.wt ≤ 1000000000 := by simp only [Blk.wt] at hwt; omega
          have hrl' : r'.flat.length ≤ b.flat.length := by simp [Blk.flat] at hrl; omega
          have htl : t.flat.length < N := by simp [Blk.flat] at hrl; omega
          have hel : e.flat.length < N := by simp [Blk.flat] at hrl; omega
          have hqt' : q + t.flat.length + e.flat.length + 3 ≤ te := by omega
          have hml : mdiff m (onesOf m a s1) < 2 ^ z.n := mdiff_lt HM.out
          have hm256 : m < 4611686018427387904 := by omega
          have ho256 : onesOf m a s1 < 4611686018427387904 := by
            have h1 := onesOf_lt HM.out n8 a s1
            have h2 : 2 ^ z.n ≤ 2 ^ 8 := Nat.pow_le_pow_right (by decide) n8
            omega
          have han := bits_andNot64 m (onesOf m a s1) hm256 ho256
          have HAN := Lib.hid han
          have HML := Lib.hid hml
          clear hm256 ho256 hml
          have HE := Lib.hid he
          have HDE := Lib.hid hde
          clear he hde
          have hol := onesOf_lt HM.out n8 a s1
          have HEND := Lib.hid hend
          have HDT := Lib.hid hdt
          have HT := Lib.hid ht
          have HOL := Lib.hid hol
          have hlen2 : q + t.flat.length + e.flat.length + 2 < z.l.length := by omega
          clear hq1 hq1' hq2 hq4 hdr hrun hr' hwt hrl HQ hend hdt ht hol hm0 hxx
          rw [hop]
          clear hop
          obtain ⟨c0, c1, c2, c3, c4, c5⟩ := hS5.cells
          have d0 : w5.cell? ⟨wr.heap.size, 0, none⟩ = some (.int .i64 11) := cell_of_heap HB5.out 0
          have d1 : w5.cell? ⟨wr.heap.size, 1, none⟩ = some (.int .i64 a) := cell_of_heap HB5.out 1
          have hbw5 : wr.heap.size < w5.heap.size := lt_of_block HB5.out
          have hR5 := hS5.run.lst.more (show z.B ≤ w5.heap.size by omega)
          rw [HA.out] at c0 hR5
          go_wp2_with fail
          refine (l4End_c _ z.ca z.l q _ hR5 hl hql2).mono ?_
          rintro e w6 ⟨rfl, hb6⟩
          rw [HEND.out]
          have hX6 := Ext.of_below hb6
          have hS6 := hS5.ext hX6 (by omega)
          have hst6 := hst5.trans (Stp.of_ext hX6 (by omega))
          replace d0 := hX6.cell d0
          replace d1 := hX6.cell d1
          clear c0 c1 c2 c3 c4 c5 hR5 hS5 hst5 hX6 hb6
          go_wp2_with fail
          refine (ones_c hS6.run hok.nbt m HM.out a ha).mono ?_
          rintro e w7 ⟨rfl, rfl⟩
          have hon : onesOf m a (nbt s1) = onesOf m a s1 := rfl
          rw [hon]
          have hbd5 := hbd.beat q m
          replace hS6 : WR w6 z ob pb U uc (beat q m s1) := ⟨hS6.run, hS6.oc, hS6.pc, hS6.acc, hS6.oB, hS6.pB, hS6.pk, hS6.pm⟩
          go_wp2_with fail
          refine (HIH.out t.flat.length htl t (d - 1) (Nat.le_refl _) HT.out w6 z ob pb U uc (beat q m s1) (q + 1) (onesOf m a s1) (q + t.flat.length + 1) _ _ _ (cElse :: (e.flat ++ cEnd :: (r'.flat ++ rest))) hS6 hok5 hbd5 HOL.out HDT.out (by omega) hl (by omega) (by have := hst6.size; omega) (by simp [beat]; omega) HV.out (by omega) (by first | rfl | omega) rfl).mono ?_
          rintro e1 w8 ⟨rfl, U3, uc3, hS8, hst8⟩
          replace hst6 := hst6.trans hst8
          have hok8 := run_ok t (d - 1) (q + 1) (onesOf m a s1) (beat q m s1) HT.out HOL.out hok5
          have hbd8 := run_bd t (q + 1) (onesOf m a s1) (beat q m s1) hbd5
          have hbt := run_beats t (q + 1) (onesOf m a s1) (beat q m s1)
          have hbl1 : (beat q m s1).beats.length = s1.beats.length + 1 := by simp [beat]
          have hwt8 : (t.run (q + 1) (onesOf m a s1) (beat q m s1)).beats.length + e.wt + r'.wt ≤ 1000000000 := by omega
          clear hbt hbl1 hS6 d0 d1 hst8
          go_wp2_with fail
          generalize t.run (q + 1) (onesOf m a s1) (beat q m s1) = s8 at *
          refine (HIH.out e.flat.length hel e (d - 1) (Nat.le_refl _) HE.out w8 z ob pb U3 uc3 s8 (q + t.flat.length + 2) (mdiff m (onesOf m a s1)) (q + t.flat.length + e.flat.length + 2) _ _ _ (cEnd :: (r'.flat ++ rest)) hS8 hok8 hbd8 HML.out HDE.out (by omega) hl (by omega) (by have := hst6.size; omega) (by omega) HV.out (by omega) (by first | rfl | omega) (by first | exact HAN.out | omega)).mono ?_
          rintro e1 w9 ⟨rfl, U4, uc4, hS9, hst9⟩
          replace hst6 := hst6.trans hst9
          have hok9 := run_ok e (d - 1) (q + t.flat.length + 2) (mdiff m (onesOf m a s1)) s8 HE.out HML.out hok8
          have hbd9 := run_bd e (q + t.flat.length + 2) (mdiff m (onesOf m a s1)) s8 hbd8
          have hbt := run_beats e (q + t.flat.length + 2) (mdiff m (onesOf m a s1)) s8
          have hwt9 : (e.run (q + t.flat.length + 2) (mdiff m (onesOf m a s1)) s8).beats.length + r'.wt ≤ 1000000000 := by omega
          clear hbt hS8 hst9 han
          go_wp2
          go_roundw
          case rel =>
            have hr := HR.out
            exact ⟨r', q + t.flat.length + e.flat.length + 3, U4, uc4, _, by (congr 1; first | done | omega), Lib.hid ⟨hr.2.1, hr.2.2.1, hr.2.2.2, hr.1⟩, hqt', hS9, hok9, hbd9, hwt9, hrl', hst6⟩
          case measure => simp [intOf]; omega
        | loop a c t r' =>
          have hq := HQ.out
          obtain ⟨hq1, hq2, hq3, hq4⟩ := hq
          obtain ⟨ha, hc, hd1, ht, hr'⟩ := hq3
          have hq1' : z.l.drop q = cLoop a c :: (t.flat ++ cEnd :: (r'.flat ++ rest)) := by rw [hq1]; simp [Blk.flat]
          obtain ⟨hend, hdt, hdr⟩ := end_iff ht hq1'
          have hxx := (drop_cons hq1').1
          obtain rfl : x = cLoop a c := by have h := HX.out; rw [hxx] at h; injection h with h; exact h.symm
          have hop : opB (cLoop a c) = true := rfl
          have hm0 : ¬ m = 0 := by intro e; subst e; simp at h0
          have hrun : Blk.run (.loop a c t r') q m s1 = r'.run (q + t.flat.length + 2) m (turnsOf (fun m s => t.run (q + 1) m s) a c.toNat m (beat q m s1)) := by
            simp only [Blk.run]; rw [if_neg hm0]
          have hlen : q + t.flat.length + 2 + r'.flat.length = te := by simp [Blk.flat] at hq2; omega
          have HR := Lib.hid (And.intro (hq4.trans hrun) (And.intro hdr (And.intro hlen hr')))
          have hwt1 : s1.beats.length + 1 + c.toNat * t.wt + r'.wt ≤ 1000000000 := by simp only [Blk.wt] at hwt; omega
          have hrl' : r'.flat.length ≤ b.flat.length := by simp [Blk.flat] at hrl; omega
          have htl : t.flat.length < N := by simp [Blk.flat] at hrl; omega
          have hqt' : q + t.flat.length + 2 ≤ te := by omega
          have hol := onesOf_lt HM.out n8 a s1
          have HEND := Lib.hid hend
          have HDT := Lib.hid hdt
          have HT := Lib.hid ht
          have HOL := Lib.hid hol
          have hlen2 : q + t.flat.length + 1 < z.l.length := by omega
          clear hq1 hq1' hq2 hq4 hdr hrun hr' hwt hrl HQ hend hdt ht hol hm0 hxx
          rw [hop]
          clear hop
          obtain ⟨c0, c1, c2, c3, c4, c5⟩ := hS5.cells
          have d0 : w5.cell? ⟨wr.heap.size, 0, none⟩ = some (.int .i64 13) := cell_of_heap HB5.out 0
          have d1 : w5.cell? ⟨wr.heap.size, 1, none⟩ = some (.int .i64 a) := cell_of_heap HB5.out 1
          have d2 : w5.cell? ⟨wr.heap.size, 2, none⟩ = some (.int .i64 c) := cell_of_heap HB5.out 2
          have hbw5 : wr.heap.size < w5.heap.size := lt_of_block HB5.out
          have hR5 := hS5.run.lst.more (show z.B ≤ w5.heap.size by omega)
          rw [HA.out] at c0 hR5
          go_wp2_with fail
          refine (l4End_c _ z.ca z.l q _ hR5 hl hql2).mono ?_
          rintro e w6 ⟨rfl, hb6⟩
          rw [HEND.out]
          have hX6 := Ext.of_below hb6
          have hS6 := hS5.ext hX6 (by omega)
          have hst6 := hst5.trans (Stp.of_ext hX6 (by omega))
          replace d0 := hX6.cell d0
          replace d1 := hX6.cell d1
          have HB6 : Hid (w6.heap[wr.heap.size]? = some (.cells #[.int .i64 13, .int .i64 a, .int .i64 c, .int .i64 0] 57 (0, 0))) := Lib.hid (hX6.heap_ HB5.out)
          replace d2 := hX6.cell d2
          clear c0 c1 c2 c3 c4 c5 hR5 hS5 hst5 hX6 hb6
          go_wp2_with fail
          refine (ones_c hS6.run hok.nbt m HM.out a ha).mono ?_
          rintro e w7 ⟨rfl, rfl⟩
          have hon : onesOf m a (nbt s1) = onesOf m a s1 := rfl
          rw [hon]
          have hbd5 := hbd.beat q m
          replace hS6 : WR w6 z ob pb U uc (beat q m s1) := ⟨hS6.run, hS6.oc, hS6.pc, hS6.acc, hS6.oB, hS6.pB, hS6.pk, hS6.pm⟩
          have hcB : ((c.toNat : Nat) : Int) = c := by omega
          have hbl1 : (beat q m s1).beats.length = s1.beats.length + 1 := by simp [beat]
          have HTO := Lib.hid (show turnsOf (fun m s => t.run (q + 1) m s) a c.toNat m (beat q m s1) = turnsOf (fun m s => t.run (q + 1) m s) a (c.toNat - 0) m (beat q m s1) from rfl)
          have hwt6 : (beat q m s1).beats.length + (c.toNat - 0) * t.wt + r'.wt ≤ 1000000000 := by rw [Nat.sub_zero]; omega
          have hm0 : m < 2 ^ z.n := HM.out
          have hw6 := hst6.size
          have hone : onesOf m a (beat q m s1) = onesOf m a s1 := rfl
          rw [← hone]
          generalize hs0e : beat q m s1 = s0 at *
          have hm0' := Lib.hid hm0
          clear hbl1 hm0 hone hon
          rw [← hcB] at d2 HB6
          have hcn : c.toNat ≤ 4 := by omega
          generalize c.toNat = cn at *
          clear hcB
          go_wp2
          obtain ⟨wo, rfl⟩ : ∃ wo : World, wo = wr := ⟨_, rfl⟩
          go_loopw [17, 16] (fun tv lv wl => WPRel w z ob pb wo.heap.size a (cn : Int) cn t q m s0 r'.wt tv lv wl) (fun tv _ _ => cn - (intOf tv).toNat)
          case atStart => exact ⟨0, m, U, uc, s0, Nat.zero_le _, rfl, rfl, hm0', HTO, hS6, hok5, hbd5, hwt6, HB6, hst6⟩
          case round =>
            clear hS6 hok5 hbd5 hwt6 HB6 hst6 hw6 hs5 hbw5 d0 d1 d2 HTO
            obtain ⟨j, mj, U3, uc3, sj, hj, rfl, rfl, HMJ, HTJ, hSj, hokj, hbdj, hwtj, HBj, hstj⟩ := hrel
            have d1 : wr.cell? ⟨wo.heap.size, 1, none⟩ = some (.int .i64 a) := cell_of_heap HBj.out 1
            have d2 : wr.cell? ⟨wo.heap.size, 2, none⟩ = some (.int .i64 cn) := cell_of_heap HBj.out 2
            have hlj := onesOf_lt HMJ.out n8 a sj
            have HLJ := Lib.hid hlj
            have hl256 : onesOf mj a sj < 256 := Nat.lt_of_lt_of_le hlj (Nat.pow_le_pow_right (by decide) n8)
            have hszj := hstj.size
            clear hlj
            by_cases hjc : j < cn
            · by_cases hl0 : onesOf mj a sj = 0
              · have HZ := Lib.hid hl0
                rw [hl0]
                have hz : (((0 : Nat) : Int) != 0) = false := by simp
                clear hl0 d1
                go_wp2
                go_roundw
                case rel =>
                  have hr := HR.out
                  have e1 := turns_zero (f := fun m s => t.run (q + 1) m s) (fun s => run_zero t _ s) a (cn - j) mj sj HZ.out
                  exact ⟨r', q + t.flat.length + 2, U3, uc3, sj, by (congr 1; first | done | omega), Lib.hid ⟨hr.2.1, hr.2.2.1, hr.2.2.2, by rw [hr.1, HTJ.out, e1]⟩, hqt', hSj, hokj, hbdj, by omega, hrl', hstj⟩
                case measure => simp [intOf]; omega
              · have hz : (((onesOf mj a sj : Nat) : Int) != 0) = true := by rw [bne_iff_ne]; omega
                have HTS := Lib.hid (turns_succ (fun m s => t.run (q + 1) m s) a hjc mj sj)
                have hwj2 : sj.beats.length + t.wt + (cn - (j + 1)) * t.wt + r'.wt ≤ 1000000000 := by
                  have : (cn - j) * t.wt = t.wt + (cn - (j + 1)) * t.wt := by
                    rw [show cn - j = (cn - (j + 1)) + 1 by omega, Nat.add_mul]; omega
                  omega
                clear hl0
                go_wp2_with fail
                refine (HIH.out t.flat.length htl t (d - 1) (Nat.le_refl _) HT.out wr z ob pb U3 uc3 sj (q + 1) (onesOf mj a sj) (q + t.flat.length + 1) _ _ _ (cEnd :: (r'.flat ++ rest)) hSj hokj hbdj HLJ.out HDT.out (by omega) hl (by omega) (by omega) (by omega) HV.out (by omega) (by first | rfl | omega) rfl).mono ?_
                rintro e1 w8 ⟨rfl, U4, uc4, hS8, hst8⟩
                have HB8 := Lib.hid (hst8.code _ _ HBj.out)
                have hst9 := hstj.trans hst8
                have hok8 := run_ok t (d - 1) (q + 1) (onesOf mj a sj) sj HT.out HLJ.out hokj
                have hbd8 := run_bd t (q + 1) (onesOf mj a sj) sj hbdj
                have hbt := run_beats t (q + 1) (onesOf mj a sj) sj
                have hwt8 : (t.run (q + 1) (onesOf mj a sj) sj).beats.length + (cn - (j + 1)) * t.wt + r'.wt ≤ 1000000000 := by omega
                have d1' : w8.cell? ⟨wo.heap.size, 1, none⟩ = some (.int .i64 a) := cell_of_heap HB8.out 1
                clear hbt hst8 d1 d2 hSj hokj hbdj
                generalize t.run (q + 1) (onesOf mj a sj) sj = s8 at *
                go_wp2_with fail
                refine (ones_c hS8.run hok8.nbt (onesOf mj a sj) HLJ.out a ha).mono ?_
                rintro e1 w9 ⟨rfl, rfl⟩
                go_wp2
                go_roundw
                case rel => exact ⟨j + 1, onesOf mj a sj, U4, uc4, s8, by omega, by go_num, rfl, HLJ, Lib.hid (by rw [HTJ.out, HTS.out]), hS8, hok8, hbd8, hwt8, HB8, hst9⟩
                case measure => simp [intOf]; omega
            · obtain rfl : j = cn := by omega
              clear d1
              go_wp2
              go_roundw
              case rel =>
                have hr := HR.out
                exact ⟨r', q + t.flat.length + 2, U3, uc3, sj, by (congr 1; first | done | omega), Lib.hid ⟨hr.2.1, hr.2.2.1, hr.2.2.2, by rw [hr.1, HTJ.out, Nat.sub_self]; rfl⟩, hqt', hSj, hokj, hbdj, by omega, hrl', hstj⟩
              case measure => simp [intOf]; omega
    · go_wp2
      go_end0
      have hq := HQ.out
      have hrn : r.flat.length = 0 := by omega
      have hr0 : r = .nil := by
        cases r with
        | nil => rfl
        | _ => simp [Blk.flat] at hrn
      subst hr0
      have e : b.run p m s = s1 := hq.2.2.2
      exact ⟨rfl, U, uc, by rw [e]; exact hS, hst⟩
end Go.Proofs.YtakeacndmnnbmaaGreat
