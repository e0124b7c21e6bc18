/- The reference's run in lockstep: the walk. -/
import Derived.Test.YtfgbbajkdpideaaMem
import Derived.Test.YtfgbbajkdpideaaLock2
import Derived.Test.YtfgbbajkdpideaaBits
import Derived.Deep.Cut
namespace Go.Proofs.Ytfgbbajkdpideaa
open Go.RowKit
set_option linter.unusedVariables false
set_option linter.unusedSimpArgs false

/-- What a call of block leaves. -/
def BlockPost (w : World) (z : SW) (b : Blk) (p m : Nat) (s : LS) (e : Ending) (w' : World) : Prop :=
  e = .returned (.tuple #[]) ∧ ∃ T tc, SR w' z T tc (splitB z.l z.n (b.run p m s).beats) (b.run p m s) ∧ Stp z.B w w'

def BKRel (w : World) (z : SW) (b : Blk) (d p m te : Nat) (s : LS) (rest : List Cd) (kv : Value) (wr : World) : Prop :=
  ∃ (r : Blk) (q : Nat) (T : Option Addr) (tc : Nat) (s1 : LS), kv = .int .i64 q ∧ Hid (z.l.drop q = r.flat ++ rest ∧ q + r.flat.length = te ∧ r.ok d ∧ b.run p m s = r.run q m s1) ∧ q ≤ te ∧
    SR wr z T tc (splitB z.l z.n s1.beats) s1 ∧ SOk z.n s1 ∧ s1.beats.length + r.wt ≤ 1000000000 ∧ r.flat.length ≤ b.flat.length ∧ Stp z.B w wr

def LPRel (w : World) (z : SW) (cb : Nat) (a c : Int) (cn : Nat) (t : Blk) (q m : Nat) (s0 : LS) (rw : Nat) (sp0 : Bool) (tv lv : Value) (wl : World) : Prop :=
  ∃ (j mj : Nat) (T : Option Addr) (tc : Nat) (sj : LS), j ≤ cn ∧ tv = .int .i64 j ∧ lv = .int .i64 (onesOf mj a sj) ∧ Hid (mj < 2 ^ z.n) ∧
    Hid (turnsOf (fun m s => t.run (q + 1) m s) a cn m s0 = turnsOf (fun m s => t.run (q + 1) m s) a (cn - j) mj sj) ∧
    SR wl z T tc (splitB z.l z.n sj.beats) sj ∧ SOk z.n sj ∧ sj.beats.length + (cn - j) * t.wt + rw ≤ 1000000000 ∧ Hid (wl.heap[cb]? = some (.cells #[.int .i64 13, .int .i64 a, .int .i64 c, .int .i64 0] 50 (0, 0))) ∧ Stp z.B w wl

set_option maxRecDepth 100000 in
set_option maxHeartbeats 16000000 in
theorem block_c (N : Nat) : ∀ (b : Blk) (d : Nat), b.flat.length ≤ N → b.ok d → ∀ (w : World) (z : SW) (T : Option Addr) (tc : Nat) (s : LS) (p m te : Nat) (fi ti mi : Int) (rest : List Cd),
    SR w z T tc (splitB z.l z.n s.beats) s → SOk z.n s → m < 2 ^ z.n → z.l.drop p = b.flat ++ rest → p + b.flat.length = te → z.l.length ≤ 1000000000 → te ≤ z.l.length → z.B ≤ w.heap.size → s.beats.length + b.wt ≤ 1000000000 → (∀ x ∈ z.l, cvOk x = true) →
    fi = p → ti = te → mi = m →
    Calls Try.prog 62 #[.pointer (some ⟨z.g, 0, none⟩), .int .i64 fi, .int .i64 ti, .int .i64 mi] w (BlockPost w z b p m s) := by
  induction N using Nat.strongRecOn with
  | ind N IH =>
  intro b d hbN hbd w z T tc s p m te fi ti mi rest hS hok hm hdrop hte hl hle hB hwt hval hfi hti hmi
  subst hfi hti hmi
  have n8 := hok.n8
  have HIH := Lib.hid IH
  have HV := Lib.hid hval
  have m256 : m < 256 := Nat.lt_of_lt_of_le hm (Nat.pow_le_pow_right (by decide) n8)
  have HM := Lib.hid hm
  have HTE := Lib.hid hte
  have hpt : p ≤ te := by omega
  have HD := Lib.hid hdrop
  clear IH hval hm hte hdrop
  go_enter Try.func62, Try.ntmps62
  go_wp2
  go_loopw [8] (fun kv wr => BKRel w z b d p m te s rest kv wr) (fun kv _ => te - (intOf kv).toNat)
  case atStart => exact ⟨b, p, T, tc, s, rfl, Lib.hid ⟨HD.out, HTE.out, hbd, rfl⟩, hpt, hS, hok, hwt, Nat.le_refl _, Stp.refl _ _⟩
  case round =>
    clear hS hok hwt
    obtain ⟨r, q, T, tc, s1, rfl, HQ, hqt, hS, hok, hwt, hrl, hst⟩ := hrel
    have hsz := hst.size
    by_cases hlt : q < te
    · by_cases hm0 : m = 0
      · subst hm0
        have h0 : (((0 : Nat) : Int) != 0) = false := by simp
        go_wp2
        go_end0
        have hq := HQ.out
        have e : b.run p 0 s = s1 := by rw [hq.2.2.2, run_zero]
        exact ⟨rfl, T, tc, by rw [e]; exact hS, hst⟩
      · have h0 : ((m : Int) != 0) = true := by rw [bne_iff_ne]; omega
        obtain ⟨c0, c1, c2, c3, c4, c5, c6⟩ := hS.cells
        have hBr : z.B ≤ wr.heap.size := by omega
        obtain ⟨lb, off, x, hA, hbB, hx, l0, l1, l2, l3⟩ := hS.lst.at_ (show q < z.l.length by omega)
        rw [hA] at c0
        have HX := Lib.hid hx
        have HA := Lib.hid hA
        have hgl := hS.glt
        have hft := hS.trc.alloc (.cells #[.int .i64 x.op, .int .i64 x.a, .int .i64 x.b, .int .i64 x.c] 50)
        have hft2 := hft.alloc (.cells #[.int .i64 q, .int .i64 m] 56)
        have HFT := Lib.hid hft2
        have HS := Lib.hid hS
        have hql : (q : Int) < (z.l.length : Int) := by omega
        have hql2 : q < z.l.length := by omega
        have hbl : s1.beats.length ≤ 1000000000 := by omega
        have hbB2 : lb < wr.heap.size := by omega
        clear hx hA hft hft2 hS hm0
        go_wp2_with (at_builtin; refine app_row 40 56 _ 2 16 Try.underlying40 infoBeat rfl (by decide) (by decide) rfl _ _ rfl z.B T s1.beats.length tc _ HFT.out rfl (wr.heap.size + 1) 1 1 [.int .i64 q, .int .i64 m] rfl rfl ?hc ?h1 ?hn ?hb ?_)
        case hc =>
          intro j u hu
          match j, hu with
          | 0, hu => simp at hu; subst hu; simp [go_sem]
          | 1, hu => simp at hu; subst hu; simp [go_sem]
        case h1 => intro u hu; simp at hu; rcases hu with rfl | rfl <;> rfl
        case hn => omega
        case hb => simp; omega
        intro T2 tc2 w2 ho2 hg2
        have hX1 := Ext.alloc wr (.cells #[.int .i64 x.op, .int .i64 x.a, .int .i64 x.b, .int .i64 x.c] 50)
        have hbx := heap_alloc_new wr (.cells #[.int .i64 x.op, .int .i64 x.a, .int .i64 x.b, .int .i64 x.c] 50)
        have hX2 := Ext.alloc (wr.alloc (.cells #[.int .i64 x.op, .int .i64 x.a, .int .i64 x.b, .int .i64 x.c] 50)) (.cells #[.int .i64 q, .int .i64 m] 56)
        have HX12 := Lib.hid (hX1.trans hX2)
        have HG2 := Lib.hid hg2
        have hS2 := HS.out.beat_ (hX1.trans hX2) hBr hg2 ho2
        have hw2s : wr.heap.size + 2 ≤ w2.heap.size := by have := hg2.size; simp at this; omega
        have hg4 : w2.heap[z.g]? = some (.cells (z.row s1 T tc (splitB z.l z.n s1.beats)) 88 (0, 0)) := by
          have e1 := (HS.out.ext (hX1.trans hX2) hBr)
          rw [hg2.block _ e1.glt (fun e => e1.t_g e.symm)]
          exact e1.blk
        have q4 : w2.cell? ⟨z.g, 4, none⟩ = some (.slice T s1.beats.length tc) := cell_of_heap hg4 4
        have f4 := free_of_heap hg4 4
        have hbx2 : w2.heap[wr.heap.size]? = some (.cells #[.int .i64 x.op, .int .i64 x.a, .int .i64 x.b, .int .i64 x.c] 50 (0, 0)) := by
          have hb1 := hX2.heap_ hbx
          rw [hg2.block _ (lt_of_block hb1) (fun e => own_ne (HS.out.ext (hX1.trans hX2) hBr).trc hb1 (by decide) e.symm)]
          exact hb1
        have HB2 := Lib.hid hbx2
        have HS2 := Lib.hid hS2
        have HG4 := Lib.hid hg4
        have hgne : ¬ z.g = wr.heap.size := by omega
        clear hX1 hX2 hbx hg2 ho2 hS2 hg4 hbx2 c0 c1 c2 c3 c4 c5 c6 l0 l1 l2 l3 HFT
        go_upto_region 5 with (fail)
        obtain ⟨hS4, hst4⟩ := HS2.out
        have hb4 : (w2.setCell ⟨z.g, 4, none⟩ (.slice T2 (s1.beats.length + 1) tc2)).heap[wr.heap.size]? = some (.cells #[.int .i64 x.op, .int .i64 x.a, .int .i64 x.b, .int .i64 x.c] 50 (0, 0)) := by
          rw [heap_set_other (fun e => hgne e.symm)]; exact HB2.out
        have hst40 := hst.trans hst4
        generalize w2.setCell ⟨z.g, 4, none⟩ (.slice T2 (s1.beats.length + 1) tc2) = w4 at *
        have HB4 := Lib.hid hb4
        obtain ⟨c0, c1, c2, c3, c4, c5, c6⟩ := hS4.cells
        have d0 := cell_of_heap hb4 0
        have d1 := cell_of_heap hb4 1
        have d2 := cell_of_heap hb4 2
        have d3 := cell_of_heap hb4 3
        have hs4 := hst40.size
        clear q4 f4 HB2 HG4 HS2 HG2 hw2s hb4 hst4 HX12 hst
        clear w2
        go_wp2_with fail
        refine (l4Opens_c x _).mono ?_
        rintro e w5 ⟨rfl, hb5⟩
        have hX5 := Ext.of_below hb5
        have hBr4 : z.B ≤ w4.heap.size := by omega
        have hS5 := hS4.ext hX5 hBr4
        have hst5 := hst40.trans (Stp.of_ext hX5 hBr4)
        have HB5 := Lib.hid (hX5.heap_ HB4.out)
        have hok5 := hok.beat q m
        have hs5 := hst5.size
        clear HB4 hS4 hst40 hb5 hX5 c0 c1 c2 c3 c4 c5 c6 d0 d1 d2 d3 hBr4 hs4
        clear w4
        cases r with
        | nil =>
          have hq := HQ.out
          simp [Blk.flat] at hq
          omega
        | op x' r' =>
          have hq := HQ.out
          obtain ⟨hq1, hq2, hq3, hq4⟩ := hq
          obtain ⟨hvx, h1x, h10x, hr'⟩ := hq3
          have hdr := drop_cons hq1
          obtain rfl : x = x' := by have h := HX.out; rw [hdr.1] at h; injection h with h; exact h.symm
          have hop : opB x = false := by simp [opB]; omega
          have hrun : Blk.run (.op x r') q m s1 = r'.run (q + 1) m (execM x m (beat q m s1)) := by
            simp only [Blk.run]; rw [if_neg (by intro e; subst e; simp at h0)]
          have HR := Lib.hid (And.intro (hq4.trans hrun) (And.intro hdr.2.1 (And.intro (show q + 1 + r'.flat.length = te by simp [Blk.flat] at hq2; omega) hr')))
          have hwt' : s1.beats.length + 1 + r'.wt ≤ 1000000000 := by simp only [Blk.wt] at hwt; omega
          have hrl' : r'.flat.length ≤ b.flat.length := by simp [Blk.flat] at hrl; omega
          have hqt' : q + 1 ≤ te := by omega
          clear hq1 hq2 hq4 hdr hrun hr' hwt hrl HQ
          rw [hop]
          clear hop
          obtain ⟨c0, c1, c2, c3, c4, c5, c6⟩ := hS5.cells
          have d0 := cell_of_heap HB5.out 0
          have d1 := cell_of_heap HB5.out 1
          have d2 := cell_of_heap HB5.out 2
          have d3 := cell_of_heap HB5.out 3
          have hbw5 : wr.heap.size < w5.heap.size := lt_of_block HB5.out
          rw [HA.out] at c0
          cases e10 : x.op == 10 with
          | false =>
            have hsp : splitB z.l z.n (execM x m (beat q m s1)).beats = splitB z.l z.n s1.beats := by
              rw [execM_beats, run_split]
              rw [opAt_get HX.out]; exact beq_eq_false_iff_ne.1 e10
            have hex : execM x m (beat q m s1) = execTo x m (beat q m s1) z.n := by rw [execM_eq HM.out n8, e10]; rfl
            have HSP := Lib.hid hsp
            have HEX := Lib.hid hex
            clear hsp hex
            go_wp2
            clear c0 c1 c2 c3 c4 c5 c6 d0 d1 d2 d3
            obtain ⟨wo, rfl⟩ : ∃ wo : World, wo = wr := ⟨_, rfl⟩
            go_loopw [15] (fun nv wn => ∃ k : Nat, k ≤ z.n ∧ nv = .int .i64 k ∧ SR wn z T2 tc2 (splitB z.l z.n s1.beats) (execTo x m (beat q m s1) k) ∧ SOk z.n (execTo x m (beat q m s1) k) ∧ Hid (wn.heap[wo.heap.size]? = some (.cells #[.int .i64 x.op, .int .i64 x.a, .int .i64 x.b, .int .i64 x.c] 50 (0, 0))) ∧ Stp z.B w wn) (fun nv _ => z.n - (intOf nv).toNat)
            case atStart => exact ⟨0, Nat.zero_le _, rfl, hS5, hok5, HB5, hst5⟩
            case round =>
              clear hS5 hok5 HB5 hst5 hs5 hbw5
              obtain ⟨k, hk, rfl, hSn, hokn, HBn, hstn⟩ := hrel
              obtain ⟨c0, c1, c2, c3, c4, c5, c6⟩ := hSn.cells
              by_cases hkn : k < z.n
              · have hbt := bit_tm m k
                have hex1 : execTo x m (beat q m s1) (k + 1) = if m.testBit k then exec1 x (execTo x m (beat q m s1) k) k else execTo x m (beat q m s1) k := rfl
                have HE1 := Lib.hid hex1
                clear hex1
                generalize execTo x m (beat q m s1) k = sk at *
                cases hb : m.testBit k with
                | false =>
                  rw [hb] at hbt
                  have HB := Lib.hid hb
                  clear hb c0 c2 c3 c4 c5 c6
                  go_wp2
                  go_roundw
                  case rel => exact ⟨k + 1, by omega, by go_num, by rw [HE1.out, HB.out]; exact hSn, by rw [HE1.out, HB.out]; exact hokn, HBn, hstn⟩
                  case measure => simp [intOf]; omega
                | true =>
                  rw [hb] at hbt
                  have HB := Lib.hid hb
                  have hrow := hSn.rowAt hkn
                  have d0 := cell_of_heap HBn.out 0
                  have d1 := cell_of_heap HBn.out 1
                  have d2 := cell_of_heap HBn.out 2
                  have d3 := cell_of_heap HBn.out 3
                  have hkI : (k : Int) < (z.n : Int) := by omega
                  clear hb c0 c4 c5 c6
                  go_wp2_with fail
                  go_still_tail 13, (by kernel_rfl)
                  go_wp2_with fail
                  have hXd : Ext wr wr.drew := Ext.drew wr
                  have hBn : z.B ≤ wr.heap.size := by have := hstn.size; omega
                  have hSd := hSn.ext hXd hBn
                  refine (l6Simple_c x k (sk.regs.getD k []) sk.mem z.B (z.rk k) 4 z.mb z.mc sk.mem.length _ hvx h10x (by omega) (hSd.inn k hkn) hSd.mem (hSd.mne k hkn) (hokn.get hkn).2 hokn.memw ⟨hokn.mem1, hokn.mem2⟩).mono ?_
                  rintro e w6 ⟨rfl, hs⟩
                  obtain ⟨hS6, hst6⟩ := hSd.simp hkn hokn rfl hBn hs
                  have hst7 := (hstn.trans (Stp.of_ext hXd hBn)).trans hst6
                  have HB6 := Lib.hid (hst6.code _ _ (hXd.heap_ HBn.out))
                  have hok6 := hokn.exec1 hvx hkn
                  clear hs hXd hSd hrow d0 d1 d2 d3 c2 c3
                  go_wp2
                  go_roundw
                  case rel => exact ⟨k + 1, by omega, by go_num, by rw [HE1.out, HB.out]; exact hS6, by rw [HE1.out, HB.out]; exact hok6, HB6, hst7⟩
                  case measure => simp [intOf]; omega
              · obtain rfl : k = z.n := by omega
                clear c0 c2 c3 c4 c5 c6
                go_wp2
                go_roundw
                case rel =>
                  have hr := HR.out
                  refine ⟨r', q + 1, T2, tc2, execM x m (beat q m s1), by go_num, Lib.hid ⟨hr.2.1, hr.2.2.1, hr.2.2.2, hr.1⟩, hqt', ?_, by rw [HEX.out]; exact hokn, by rw [execM_beats]; simpa [beat] using hwt', hrl', hstn⟩
                  rw [HSP.out, HEX.out]
                  exact hSn
                case measure => simp [intOf]; omega
          | true =>
            have hz1 : 1 ≤ z.n := by
              have := HM.out
              rcases Nat.eq_zero_or_pos z.n with e | e
              · rw [e] at this; simp at this; subst this; simp at h0
              · exact e
            have hop10 : (opAt z.l q == 10) = true := by rw [opAt_get HX.out]; exact e10
            have hmall : maskAllI z.n = ((2 ^ z.n - 1 : Nat) : Int) := by
              have e1 : inR (z.n : Int) 1 8 = true := by rw [inR_iff]; omega
              have e2 : 1 ≤ 2 ^ z.n := Nat.one_le_two_pow
              have e3 : ((2 : Int) ^ z.n) = ((2 ^ z.n : Nat) : Int) := by simp
              simp only [maskAllI, e1, if_true, Int.toNat_natCast, e3]
              omega
            have hmb : ((m : Int) != maskAllI z.n) = !(m == 2 ^ z.n - 1) := by
              rw [hmall]
              cases hc : (m == 2 ^ z.n - 1) with
              | true => have := beq_iff_eq.1 hc; rw [this]; simp
              | false => have := beq_eq_false_iff_ne.1 hc; simp only [Bool.not_false, bne_iff_ne]; omega
            have hsp : splitB z.l z.n (execM x m (beat q m s1)).beats = (splitB z.l z.n s1.beats || !(m == 2 ^ z.n - 1)) := by
              rw [execM_beats]
              show splitB z.l z.n (s1.beats ++ [(q, m)]) = _
              rw [splitB_snoc, hop10, Bool.true_and]
            have hex : ∀ T tc sp wz, SR wz z T tc sp (execTo x m (beat q m s1) z.n) → SR wz z T tc sp (execM x m (beat q m s1)) := by
              intro T tc sp wz h
              rw [execM_eq HM.out n8, e10]
              exact ⟨h.blk, h.gB, h.out, h.inn, h.mem, h.trc, h.inj, h.mne, h.lst⟩
            have hokx := hok5.execM hvx HM.out
            have HOKX := Lib.hid hokx
            have HSP := Lib.hid hsp
            have HEX := Lib.hid hex
            have HMB := Lib.hid hmb
            clear hop10 hmall hsp hex hmb hokx
            have hg5 := hS5.blk
            have f5 := free_of_heap hg5 5
            clear hg5
            cases hs0 : splitB z.l z.n s1.beats with
            | true =>
              rw [hs0] at c5 hS5
              have HS0 := Lib.hid hs0
              clear hs0
              go_upto_region 24 with (fail)
              obtain ⟨hS8, hst8⟩ := hS5.spl (by omega) true
              have hB8 := Lib.hid (hst8.code _ _ HB5.out)
              replace hst5 := hst5.trans hst8
              generalize w5.setCell ⟨z.g, 5, none⟩ (.bool true) = w8 at *
              clear hst8 hS5 HB5
              go_wp2
              clear c0 c1 c2 c3 c4 c5 c6 d0 d1 d2 d3
              obtain ⟨wo, rfl⟩ : ∃ wo : World, wo = wr := ⟨_, rfl⟩
              go_loopw [15] (fun nv wn => ∃ k : Nat, k ≤ z.n ∧ nv = .int .i64 k ∧ SR wn z T2 tc2 true (execTo x m (beat q m s1) k) ∧ SOk z.n (execTo x m (beat q m s1) k) ∧ Hid (wn.heap[wo.heap.size]? = some (.cells #[.int .i64 x.op, .int .i64 x.a, .int .i64 x.b, .int .i64 x.c] 50 (0, 0))) ∧ Stp z.B w wn) (fun nv _ => z.n - (intOf nv).toNat)
              case atStart => exact ⟨0, Nat.zero_le _, rfl, hS8, hok5, hB8, hst5⟩
              case round =>
                clear hS8 hok5 hB8 hst5 hs5 hbw5
                obtain ⟨k, hk, rfl, hSn, hokn, HBn, hstn⟩ := hrel
                obtain ⟨c0, c1, c2, c3, c4, c5, c6⟩ := hSn.cells
                by_cases hkn : k < z.n
                · have hbt := bit_tm m k
                  have hex1 : execTo x m (beat q m s1) (k + 1) = if m.testBit k then exec1 x (execTo x m (beat q m s1) k) k else execTo x m (beat q m s1) k := rfl
                  have HE1 := Lib.hid hex1
                  clear hex1
                  generalize execTo x m (beat q m s1) k = sk at *
                  cases hb : m.testBit k with
                  | false =>
                    rw [hb] at hbt
                    have HB := Lib.hid hb
                    clear hb c0 c2 c3 c4 c5 c6
                    go_wp2
                    go_roundw
                    case rel => exact ⟨k + 1, by omega, by go_num, by rw [HE1.out, HB.out]; exact hSn, by rw [HE1.out, HB.out]; exact hokn, HBn, hstn⟩
                    case measure => simp [intOf]; omega
                  | true =>
                    rw [hb] at hbt
                    have HB := Lib.hid hb
                    have hrow := hSn.rowAt hkn
                    have d0 := cell_of_heap HBn.out 0
                    have d1 := cell_of_heap HBn.out 1
                    have d2 := cell_of_heap HBn.out 2
                    have d3 := cell_of_heap HBn.out 3
                    have hkI : (k : Int) < (z.n : Int) := by omega
                    clear hb c0 c4 c5 c6
                    go_wp2_with fail
                    go_still_tail 13, (by kernel_rfl)
                    go_wp2_with fail
                    have hXd : Ext wr wr.drew := Ext.drew wr
                    have hBn : z.B ≤ wr.heap.size := by have := hstn.size; omega
                    have hSd := hSn.ext hXd hBn
                    refine (l6Simple_c x k (sk.regs.getD k []) sk.mem z.B (z.rk k) 4 z.mb z.mc sk.mem.length _ hvx h10x (by omega) (hSd.inn k hkn) hSd.mem (hSd.mne k hkn) (hokn.get hkn).2 hokn.memw ⟨hokn.mem1, hokn.mem2⟩).mono ?_
                    rintro e w6 ⟨rfl, hs⟩
                    obtain ⟨hS6, hst6⟩ := hSd.simp hkn hokn rfl hBn hs
                    have hst7 := (hstn.trans (Stp.of_ext hXd hBn)).trans hst6
                    have HB6 := Lib.hid (hst6.code _ _ (hXd.heap_ HBn.out))
                    have hok6 := hokn.exec1 hvx hkn
                    clear hs hXd hSd hrow d0 d1 d2 d3 c2 c3
                    go_wp2
                    go_roundw
                    case rel => exact ⟨k + 1, by omega, by go_num, by rw [HE1.out, HB.out]; exact hS6, by rw [HE1.out, HB.out]; exact hok6, HB6, hst7⟩
                    case measure => simp [intOf]; omega
                · obtain rfl : k = z.n := by omega
                  clear c0 c2 c3 c4 c5 c6
                  go_wp2
                  go_roundw
                  case rel =>
                    have hr := HR.out
                    refine ⟨r', q + 1, T2, tc2, execM x m (beat q m s1), by go_num, Lib.hid ⟨hr.2.1, hr.2.2.1, hr.2.2.2, hr.1⟩, hqt', ?_, HOKX.out, by rw [execM_beats]; simpa [beat] using hwt', hrl', hstn⟩
                    rw [HSP.out, HS0.out]
                    exact HEX.out _ _ _ _ hSn
                  case measure => simp [intOf]; omega

            | false =>
              rw [hs0] at c5 hS5
              have HS0 := Lib.hid hs0
              clear hs0
              go_wp2_with fail
              refine (sMaskAll_c _ _).mono ?_
              rintro e w6 ⟨rfl, rfl⟩
              have hmb := HMB.out
              cases hml : (m == 2 ^ z.n - 1) with
              | true =>
                rw [hml] at hmb
                have HML := Lib.hid hml
                clear hml
                go_upto_region 24 with (fail)
                obtain ⟨hS8, hst8⟩ := hS5.spl (by omega) false
                have hB8 := Lib.hid (hst8.code _ _ HB5.out)
                replace hst5 := hst5.trans hst8
                generalize w5.setCell ⟨z.g, 5, none⟩ (.bool false) = w8 at *
                clear hst8 hS5 HB5 hmb
                go_wp2
                clear c0 c1 c2 c3 c4 c5 c6 d0 d1 d2 d3
                obtain ⟨wo, rfl⟩ : ∃ wo : World, wo = wr := ⟨_, rfl⟩
                go_loopw [15] (fun nv wn => ∃ k : Nat, k ≤ z.n ∧ nv = .int .i64 k ∧ SR wn z T2 tc2 false (execTo x m (beat q m s1) k) ∧ SOk z.n (execTo x m (beat q m s1) k) ∧ Hid (wn.heap[wo.heap.size]? = some (.cells #[.int .i64 x.op, .int .i64 x.a, .int .i64 x.b, .int .i64 x.c] 50 (0, 0))) ∧ Stp z.B w wn) (fun nv _ => z.n - (intOf nv).toNat)
                case atStart => exact ⟨0, Nat.zero_le _, rfl, hS8, hok5, hB8, hst5⟩
                case round =>
                  clear hS8 hok5 hB8 hst5 hs5 hbw5
                  obtain ⟨k, hk, rfl, hSn, hokn, HBn, hstn⟩ := hrel
                  obtain ⟨c0, c1, c2, c3, c4, c5, c6⟩ := hSn.cells
                  by_cases hkn : k < z.n
                  · have hbt := bit_tm m k
                    have hex1 : execTo x m (beat q m s1) (k + 1) = if m.testBit k then exec1 x (execTo x m (beat q m s1) k) k else execTo x m (beat q m s1) k := rfl
                    have HE1 := Lib.hid hex1
                    clear hex1
                    generalize execTo x m (beat q m s1) k = sk at *
                    cases hb : m.testBit k with
                    | false =>
                      rw [hb] at hbt
                      have HB := Lib.hid hb
                      clear hb c0 c2 c3 c4 c5 c6
                      go_wp2
                      go_roundw
                      case rel => exact ⟨k + 1, by omega, by go_num, by rw [HE1.out, HB.out]; exact hSn, by rw [HE1.out, HB.out]; exact hokn, HBn, hstn⟩
                      case measure => simp [intOf]; omega
                    | true =>
                      rw [hb] at hbt
                      have HB := Lib.hid hb
                      have hrow := hSn.rowAt hkn
                      have d0 := cell_of_heap HBn.out 0
                      have d1 := cell_of_heap HBn.out 1
                      have d2 := cell_of_heap HBn.out 2
                      have d3 := cell_of_heap HBn.out 3
                      have hkI : (k : Int) < (z.n : Int) := by omega
                      clear hb c0 c4 c5 c6
                      go_wp2_with fail
                      go_still_tail 13, (by kernel_rfl)
                      go_wp2_with fail
                      have hXd : Ext wr wr.drew := Ext.drew wr
                      have hBn : z.B ≤ wr.heap.size := by have := hstn.size; omega
                      have hSd := hSn.ext hXd hBn
                      refine (l6Simple_c x k (sk.regs.getD k []) sk.mem z.B (z.rk k) 4 z.mb z.mc sk.mem.length _ hvx h10x (by omega) (hSd.inn k hkn) hSd.mem (hSd.mne k hkn) (hokn.get hkn).2 hokn.memw ⟨hokn.mem1, hokn.mem2⟩).mono ?_
                      rintro e w6 ⟨rfl, hs⟩
                      obtain ⟨hS6, hst6⟩ := hSd.simp hkn hokn rfl hBn hs
                      have hst7 := (hstn.trans (Stp.of_ext hXd hBn)).trans hst6
                      have HB6 := Lib.hid (hst6.code _ _ (hXd.heap_ HBn.out))
                      have hok6 := hokn.exec1 hvx hkn
                      clear hs hXd hSd hrow d0 d1 d2 d3 c2 c3
                      go_wp2
                      go_roundw
                      case rel => exact ⟨k + 1, by omega, by go_num, by rw [HE1.out, HB.out]; exact hS6, by rw [HE1.out, HB.out]; exact hok6, HB6, hst7⟩
                      case measure => simp [intOf]; omega
                  · obtain rfl : k = z.n := by omega
                    clear c0 c2 c3 c4 c5 c6
                    go_wp2
                    go_roundw
                    case rel =>
                      have hr := HR.out
                      refine ⟨r', q + 1, T2, tc2, execM x m (beat q m s1), by go_num, Lib.hid ⟨hr.2.1, hr.2.2.1, hr.2.2.2, hr.1⟩, hqt', ?_, HOKX.out, by rw [execM_beats]; simpa [beat] using hwt', hrl', hstn⟩
                      rw [HSP.out, HS0.out, HML.out]
                      exact HEX.out _ _ _ _ hSn
                    case measure => simp [intOf]; omega

              | false =>
                rw [hml] at hmb
                have HML := Lib.hid hml
                clear hml
                go_upto_region 24 with (fail)
                obtain ⟨hS8, hst8⟩ := hS5.spl (by omega) true
                have hB8 := Lib.hid (hst8.code _ _ HB5.out)
                replace hst5 := hst5.trans hst8
                generalize w5.setCell ⟨z.g, 5, none⟩ (.bool true) = w8 at *
                clear hst8 hS5 HB5 hmb
                go_wp2
                clear c0 c1 c2 c3 c4 c5 c6 d0 d1 d2 d3
                obtain ⟨wo, rfl⟩ : ∃ wo : World, wo = wr := ⟨_, rfl⟩
                go_loopw [15] (fun nv wn => ∃ k : Nat, k ≤ z.n ∧ nv = .int .i64 k ∧ SR wn z T2 tc2 true (execTo x m (beat q m s1) k) ∧ SOk z.n (execTo x m (beat q m s1) k) ∧ Hid (wn.heap[wo.heap.size]? = some (.cells #[.int .i64 x.op, .int .i64 x.a, .int .i64 x.b, .int .i64 x.c] 50 (0, 0))) ∧ Stp z.B w wn) (fun nv _ => z.n - (intOf nv).toNat)
                case atStart => exact ⟨0, Nat.zero_le _, rfl, hS8, hok5, hB8, hst5⟩
                case round =>
                  clear hS8 hok5 hB8 hst5 hs5 hbw5
                  obtain ⟨k, hk, rfl, hSn, hokn, HBn, hstn⟩ := hrel
                  obtain ⟨c0, c1, c2, c3, c4, c5, c6⟩ := hSn.cells
                  by_cases hkn : k < z.n
                  · have hbt := bit_tm m k
                    have hex1 : execTo x m (beat q m s1) (k + 1) = if m.testBit k then exec1 x (execTo x m (beat q m s1) k) k else execTo x m (beat q m s1) k := rfl
                    have HE1 := Lib.hid hex1
                    clear hex1
                    generalize execTo x m (beat q m s1) k = sk at *
                    cases hb : m.testBit k with
                    | false =>
                      rw [hb] at hbt
                      have HB := Lib.hid hb
                      clear hb c0 c2 c3 c4 c5 c6
                      go_wp2
                      go_roundw
                      case rel => exact ⟨k + 1, by omega, by go_num, by rw [HE1.out, HB.out]; exact hSn, by rw [HE1.out, HB.out]; exact hokn, HBn, hstn⟩
                      case measure => simp [intOf]; omega
                    | true =>
                      rw [hb] at hbt
                      have HB := Lib.hid hb
                      have hrow := hSn.rowAt hkn
                      have d0 := cell_of_heap HBn.out 0
                      have d1 := cell_of_heap HBn.out 1
                      have d2 := cell_of_heap HBn.out 2
                      have d3 := cell_of_heap HBn.out 3
                      have hkI : (k : Int) < (z.n : Int) := by omega
                      clear hb c0 c4 c5 c6
                      go_wp2_with fail
                      go_still_tail 13, (by kernel_rfl)
                      go_wp2_with fail
                      have hXd : Ext wr wr.drew := Ext.drew wr
                      have hBn : z.B ≤ wr.heap.size := by have := hstn.size; omega
                      have hSd := hSn.ext hXd hBn
                      refine (l6Simple_c x k (sk.regs.getD k []) sk.mem z.B (z.rk k) 4 z.mb z.mc sk.mem.length _ hvx h10x (by omega) (hSd.inn k hkn) hSd.mem (hSd.mne k hkn) (hokn.get hkn).2 hokn.memw ⟨hokn.mem1, hokn.mem2⟩).mono ?_
                      rintro e w6 ⟨rfl, hs⟩
                      obtain ⟨hS6, hst6⟩ := hSd.simp hkn hokn rfl hBn hs
                      have hst7 := (hstn.trans (Stp.of_ext hXd hBn)).trans hst6
                      have HB6 := Lib.hid (hst6.code _ _ (hXd.heap_ HBn.out))
                      have hok6 := hokn.exec1 hvx hkn
                      clear hs hXd hSd hrow d0 d1 d2 d3 c2 c3
                      go_wp2
                      go_roundw
                      case rel => exact ⟨k + 1, by omega, by go_num, by rw [HE1.out, HB.out]; exact hS6, by rw [HE1.out, HB.out]; exact hok6, HB6, hst7⟩
                      case measure => simp [intOf]; omega
                  · obtain rfl : k = z.n := by omega
                    clear c0 c2 c3 c4 c5 c6
                    go_wp2
                    go_roundw
                    case rel =>
                      have hr := HR.out
                      refine ⟨r', q + 1, T2, tc2, execM x m (beat q m s1), by go_num, Lib.hid ⟨hr.2.1, hr.2.2.1, hr.2.2.2, hr.1⟩, hqt', ?_, HOKX.out, by rw [execM_beats]; simpa [beat] using hwt', hrl', hstn⟩
                      rw [HSP.out, HS0.out, HML.out]
                      exact HEX.out _ _ _ _ hSn
                    case measure => simp [intOf]; omega

        | iff a t r' =>
          have hq := HQ.out
          obtain ⟨hq1, hq2, hq3, hq4⟩ := hq
          obtain ⟨ha, hd1, ht, hr'⟩ := hq3
          have hq1' : z.l.drop q = cIf a :: (t.flat ++ cEnd :: (r'.flat ++ rest)) := by rw [hq1]; simp [Blk.flat]
          obtain ⟨hend, hdt, hdr⟩ := end_iff ht hq1'
          have hxx := (drop_cons hq1').1
          obtain rfl : x = cIf a := by have h := HX.out; rw [hxx] at h; injection h with h; exact h.symm
          have hop : opB (cIf a) = true := rfl
          have hm0 : ¬ m = 0 := by intro e; subst e; simp at h0
          have hrun : Blk.run (.iff a t r') q m s1 = r'.run (q + t.flat.length + 2) m (t.run (q + 1) (onesOf m a s1) (beat q m s1)) := by
            simp only [Blk.run]; rw [if_neg hm0]
          have hlen : q + t.flat.length + 2 + r'.flat.length = te := by simp [Blk.flat] at hq2; omega
          have HR := Lib.hid (And.intro (hq4.trans hrun) (And.intro hdr (And.intro hlen hr')))
          have hwt1 : s1.beats.length + 1 + t.wt + r'.wt ≤ 1000000000 := by simp only [Blk.wt] at hwt; omega
          have hrl' : r'.flat.length ≤ b.flat.length := by simp [Blk.flat] at hrl; omega
          have htl : t.flat.length < N := by simp [Blk.flat] at hrl; omega
          have hqt' : q + t.flat.length + 2 ≤ te := by omega
          have hol := onesOf_lt HM.out n8 a s1
          have hsp : splitB z.l z.n (beat q m s1).beats = splitB z.l z.n s1.beats := run_split (by rw [opAt_get HX.out]; exact (by decide : (11 : Int) ≠ 10))
          have HSP := Lib.hid hsp
          have HEND := Lib.hid hend
          have HDT := Lib.hid hdt
          have HT := Lib.hid ht
          have HOL := Lib.hid hol
          have hlen2 : q + t.flat.length + 1 < z.l.length := by omega
          clear hq1 hq1' hq2 hq4 hdr hrun hr' hwt hrl HQ hend hdt ht hol hsp hm0 hxx
          rw [hop]
          clear hop
          obtain ⟨c0, c1, c2, c3, c4, c5, c6⟩ := hS5.cells
          have d0 : w5.cell? ⟨wr.heap.size, 0, none⟩ = some (.int .i64 11) := cell_of_heap HB5.out 0
          have d1 : w5.cell? ⟨wr.heap.size, 1, none⟩ = some (.int .i64 a) := cell_of_heap HB5.out 1
          have hbw5 : wr.heap.size < w5.heap.size := lt_of_block HB5.out
          have hR5 := hS5.lst.more (show z.B ≤ w5.heap.size by omega)
          rw [HA.out] at c0 hR5
          go_wp2_with fail
          refine (l4End_c _ z.ca z.l q _ hR5 hl hql2).mono ?_
          rintro e w6 ⟨rfl, hb6⟩
          rw [HEND.out]
          have hX6 := Ext.of_below hb6
          have hS6 := hS5.ext hX6 (by omega)
          have hst6 := hst5.trans (Stp.of_ext hX6 (by omega))
          replace d0 := hX6.cell d0
          replace d1 := hX6.cell d1
          clear c0 c1 c2 c3 c4 c5 c6 hR5 hS5 hst5 hX6 hb6
          go_wp2_with fail
          refine (ones_c hS6 hok5 m HM.out a ha).mono ?_
          rintro e w7 ⟨rfl, rfl⟩
          have hon : onesOf m a (beat q m s1) = onesOf m a s1 := rfl
          rw [hon]
          go_wp2_with fail
          refine (HIH.out t.flat.length htl t (d - 1) (Nat.le_refl _) HT.out w6 z T2 tc2 (beat q m s1) (q + 1) (onesOf m a s1) (q + t.flat.length + 1) _ _ _ (cEnd :: (r'.flat ++ rest)) (by rw [HSP.out]; exact hS6) hok5 HOL.out HDT.out (by omega) hl (by omega) (by have := hst6.size; omega) (by simp [beat]; omega) HV.out (by omega) rfl rfl).mono ?_
          rintro e w8 ⟨rfl, T3, tc3, hS8, hst8⟩
          replace hst6 := hst6.trans hst8
          have hok8 := run_ok t (d - 1) (q + 1) (onesOf m a s1) (beat q m s1) HT.out HOL.out hok5
          have hbt := run_beats t (q + 1) (onesOf m a s1) (beat q m s1)
          have hbl1 : (beat q m s1).beats.length = s1.beats.length + 1 := by simp [beat]
          have hwt8 : (t.run (q + 1) (onesOf m a s1) (beat q m s1)).beats.length + r'.wt ≤ 1000000000 := by omega
          clear hbt hbl1 hS6 d0 d1 hst8
          go_wp2
          go_roundw
          case rel =>
            have hr := HR.out
            exact ⟨r', q + t.flat.length + 2, T3, tc3, _, by (congr 1; first | done | omega), Lib.hid ⟨hr.2.1, hr.2.2.1, hr.2.2.2, hr.1⟩, hqt', hS8, hok8, hwt8, hrl', hst6⟩
          case measure => simp [intOf]; omega
        | ife a t e r' =>
          have hq := HQ.out
          obtain ⟨hq1, hq2, hq3, hq4⟩ := hq
          obtain ⟨ha, hd1, ht, he, hr'⟩ := hq3
          have hq1' : z.l.drop q = cIf a :: (t.flat ++ cElse :: (e.flat ++ cEnd :: (r'.flat ++ rest))) := by rw [hq1]; simp [Blk.flat]
          obtain ⟨hend, hdt, hde, hdr⟩ := end_ife ht he hq1'
          have hxx := (drop_cons hq1').1
          obtain rfl : x = cIf a := by have h := HX.out; rw [hxx] at h; injection h with h; exact h.symm
          have hop : opB (cIf a) = true := rfl
          have hm0 : ¬ m = 0 := by intro e; subst e; simp at h0
          have hrun : Blk.run (.ife a t e r') q m s1 = r'.run (q + t.flat.length + e.flat.length + 3) m (e.run (q + t.flat.length + 2) (mdiff m (onesOf m a s1)) (t.run (q + 1) (onesOf m a s1) (beat q m s1))) := by
            simp only [Blk.run]; rw [if_neg hm0]
          have hlen : q + t.flat.length + e.flat.length + 3 + r'.flat.length = te := by simp [Blk.flat] at hq2; omega
          have HR := Lib.hid (And.intro (hq4.trans hrun) (And.intro hdr (And.intro hlen hr')))
          have hwt1 : s1.beats.length + 1 + t.wt + e.wt + r'.wt ≤ 1000000000 := by simp only [Blk.wt] at hwt; omega
          have hrl' : r'.flat.length ≤ b.flat.length := by simp [Blk.flat] at hrl; omega
          have htl : t.flat.length < N := by simp [Blk.flat] at hrl; omega
          have hel : e.flat.length < N := by simp [Blk.flat] at hrl; omega
          have hqt' : q + t.flat.length + e.flat.length + 3 ≤ te := by omega
          have hml : mdiff m (onesOf m a s1) < 2 ^ z.n := mdiff_lt HM.out
          have hm256 : m < 4611686018427387904 := by omega
          have ho256 : onesOf m a s1 < 4611686018427387904 := by
            have h1 := onesOf_lt HM.out n8 a s1
            have h2 : 2 ^ z.n ≤ 2 ^ 8 := Nat.pow_le_pow_right (by decide) n8
            omega
          have han := bits_andNot64 m (onesOf m a s1) hm256 ho256
          have HAN := Lib.hid han
          have HE := Lib.hid he
          have HML := Lib.hid hml
          have HDE := Lib.hid hde
          clear hm256 ho256 he hde hml
          have hol := onesOf_lt HM.out n8 a s1
          have hsp : splitB z.l z.n (beat q m s1).beats = splitB z.l z.n s1.beats := run_split (by rw [opAt_get HX.out]; exact (by decide : (11 : Int) ≠ 10))
          have HSP := Lib.hid hsp
          have HEND := Lib.hid hend
          have HDT := Lib.hid hdt
          have HT := Lib.hid ht
          have HOL := Lib.hid hol
          have hlen2 : q + t.flat.length + e.flat.length + 2 < z.l.length := by omega
          clear hq1 hq1' hq2 hq4 hdr hrun hr' hwt hrl HQ hend hdt ht hol hsp hm0 hxx
          rw [hop]
          clear hop
          obtain ⟨c0, c1, c2, c3, c4, c5, c6⟩ := hS5.cells
          have d0 : w5.cell? ⟨wr.heap.size, 0, none⟩ = some (.int .i64 11) := cell_of_heap HB5.out 0
          have d1 : w5.cell? ⟨wr.heap.size, 1, none⟩ = some (.int .i64 a) := cell_of_heap HB5.out 1
          have hbw5 : wr.heap.size < w5.heap.size := lt_of_block HB5.out
          have hR5 := hS5.lst.more (show z.B ≤ w5.heap.size by omega)
          rw [HA.out] at c0 hR5
          go_wp2_with fail
          refine (l4End_c _ z.ca z.l q _ hR5 hl hql2).mono ?_
          rintro e w6 ⟨rfl, hb6⟩
          rw [HEND.out]
          have hX6 := Ext.of_below hb6
          have hS6 := hS5.ext hX6 (by omega)
          have hst6 := hst5.trans (Stp.of_ext hX6 (by omega))
          replace d0 := hX6.cell d0
          replace d1 := hX6.cell d1
          clear c0 c1 c2 c3 c4 c5 c6 hR5 hS5 hst5 hX6 hb6
          go_wp2_with fail
          refine (ones_c hS6 hok5 m HM.out a ha).mono ?_
          rintro e w7 ⟨rfl, rfl⟩
          have hon : onesOf m a (beat q m s1) = onesOf m a s1 := rfl
          rw [hon]
          go_wp2_with fail
          refine (HIH.out t.flat.length htl t (d - 1) (Nat.le_refl _) HT.out w6 z T2 tc2 (beat q m s1) (q + 1) (onesOf m a s1) (q + t.flat.length + 1) _ _ _ (cElse :: (e.flat ++ cEnd :: (r'.flat ++ rest))) (by rw [HSP.out]; exact hS6) hok5 HOL.out HDT.out (by omega) hl (by omega) (by have := hst6.size; omega) (by simp [beat]; omega) HV.out (by omega) rfl rfl).mono ?_
          rintro e1 w8 ⟨rfl, T3, tc3, hS8, hst8⟩
          replace hst6 := hst6.trans hst8
          have hok8 := run_ok t (d - 1) (q + 1) (onesOf m a s1) (beat q m s1) HT.out HOL.out hok5
          have hbt := run_beats t (q + 1) (onesOf m a s1) (beat q m s1)
          have hbl1 : (beat q m s1).beats.length = s1.beats.length + 1 := by simp [beat]
          have hwt8 : (t.run (q + 1) (onesOf m a s1) (beat q m s1)).beats.length + e.wt + r'.wt ≤ 1000000000 := by omega
          clear hbt hbl1 hS6 d0 d1 hst8
          go_wp2_with fail
          generalize t.run (q + 1) (onesOf m a s1) (beat q m s1) = s8 at *
          refine (HIH.out e.flat.length hel e (d - 1) (Nat.le_refl _) HE.out w8 z T3 tc3 s8 (q + t.flat.length + 2) (mdiff m (onesOf m a s1)) (q + t.flat.length + e.flat.length + 2) _ _ _ (cEnd :: (r'.flat ++ rest)) hS8 hok8 HML.out HDE.out (by omega) hl (by omega) (by have := hst6.size; omega) (by omega) HV.out (by omega) rfl (by first | exact HAN.out | omega)).mono ?_
          rintro e1 w9 ⟨rfl, T4, tc4, hS9, hst9⟩
          replace hst6 := hst6.trans hst9
          have hok9 := run_ok e (d - 1) (q + t.flat.length + 2) (mdiff m (onesOf m a s1)) s8 HE.out HML.out hok8
          have hbt := run_beats e (q + t.flat.length + 2) (mdiff m (onesOf m a s1)) s8
          have hwt9 : (e.run (q + t.flat.length + 2) (mdiff m (onesOf m a s1)) s8).beats.length + r'.wt ≤ 1000000000 := by omega
          clear hbt hS8 hst9 han
          go_wp2
          go_roundw
          case rel =>
            have hr := HR.out
            exact ⟨r', q + t.flat.length + e.flat.length + 3, T4, tc4, _, by (congr 1; first | done | omega), Lib.hid ⟨hr.2.1, hr.2.2.1, hr.2.2.2, hr.1⟩, hqt', hS9, hok9, hwt9, hrl', hst6⟩
          case measure => simp [intOf]; omega
        | loop a c t r' =>
          have hq := HQ.out
          obtain ⟨hq1, hq2, hq3, hq4⟩ := hq
          obtain ⟨ha, hc, hd1, ht, hr'⟩ := hq3
          have hq1' : z.l.drop q = cLoop a c :: (t.flat ++ cEnd :: (r'.flat ++ rest)) := by rw [hq1]; simp [Blk.flat]
          obtain ⟨hend, hdt, hdr⟩ := end_iff ht hq1'
          have hxx := (drop_cons hq1').1
          obtain rfl : x = cLoop a c := by have h := HX.out; rw [hxx] at h; injection h with h; exact h.symm
          have hop : opB (cLoop a c) = true := rfl
          have hm0 : ¬ m = 0 := by intro e; subst e; simp at h0
          have hrun : Blk.run (.loop a c t r') q m s1 = r'.run (q + t.flat.length + 2) m (turnsOf (fun m s => t.run (q + 1) m s) a c.toNat m (beat q m s1)) := by
            simp only [Blk.run]; rw [if_neg hm0]
          have hlen : q + t.flat.length + 2 + r'.flat.length = te := by simp [Blk.flat] at hq2; omega
          have HR := Lib.hid (And.intro (hq4.trans hrun) (And.intro hdr (And.intro hlen hr')))
          have hwt1 : s1.beats.length + 1 + c.toNat * t.wt + r'.wt ≤ 1000000000 := by simp only [Blk.wt] at hwt; omega
          have hrl' : r'.flat.length ≤ b.flat.length := by simp [Blk.flat] at hrl; omega
          have htl : t.flat.length < N := by simp [Blk.flat] at hrl; omega
          have hqt' : q + t.flat.length + 2 ≤ te := by omega
          have hol := onesOf_lt HM.out n8 a s1
          have hsp : splitB z.l z.n (beat q m s1).beats = splitB z.l z.n s1.beats := run_split (by rw [opAt_get HX.out]; exact (by decide : (13 : Int) ≠ 10))
          have HSP := Lib.hid hsp
          have HEND := Lib.hid hend
          have HDT := Lib.hid hdt
          have HT := Lib.hid ht
          have HOL := Lib.hid hol
          have hlen2 : q + t.flat.length + 1 < z.l.length := by omega
          clear hq1 hq1' hq2 hq4 hdr hrun hr' hwt hrl HQ hend hdt ht hol hsp hm0 hxx
          rw [hop]
          clear hop
          obtain ⟨c0, c1, c2, c3, c4, c5, c6⟩ := hS5.cells
          have d0 : w5.cell? ⟨wr.heap.size, 0, none⟩ = some (.int .i64 13) := cell_of_heap HB5.out 0
          have d1 : w5.cell? ⟨wr.heap.size, 1, none⟩ = some (.int .i64 a) := cell_of_heap HB5.out 1
          have d2 : w5.cell? ⟨wr.heap.size, 2, none⟩ = some (.int .i64 c) := cell_of_heap HB5.out 2
          have hbw5 : wr.heap.size < w5.heap.size := lt_of_block HB5.out
          have hR5 := hS5.lst.more (show z.B ≤ w5.heap.size by omega)
          rw [HA.out] at c0 hR5
          go_wp2_with fail
          refine (l4End_c _ z.ca z.l q _ hR5 hl hql2).mono ?_
          rintro e w6 ⟨rfl, hb6⟩
          rw [HEND.out]
          have hX6 := Ext.of_below hb6
          have hS6 := hS5.ext hX6 (by omega)
          have hst6 := hst5.trans (Stp.of_ext hX6 (by omega))
          replace d0 := hX6.cell d0
          replace d1 := hX6.cell d1
          have HB6 : Hid (w6.heap[wr.heap.size]? = some (.cells #[.int .i64 13, .int .i64 a, .int .i64 c, .int .i64 0] 50 (0, 0))) := hX6.heap_ HB5.out
          clear c0 c1 c2 c3 c4 c5 c6 hR5 hS5 hst5 hX6 hb6
          go_wp2_with fail
          refine (ones_c hS6 hok5 m HM.out a ha).mono ?_
          rintro e w7 ⟨rfl, rfl⟩
          have hcB : ((c.toNat : Nat) : Int) = c := by omega
          have hbl1 : (beat q m s1).beats.length = s1.beats.length + 1 := by simp [beat]
          have hTO : turnsOf (fun m s => t.run (q + 1) m s) a c.toNat m (beat q m s1) = turnsOf (fun m s => t.run (q + 1) m s) a (c.toNat - 0) m (beat q m s1) := rfl
          have HTO := Lib.hid hTO
          have hwt6 : (beat q m s1).beats.length + (c.toNat - 0) * t.wt + r'.wt ≤ 1000000000 := by rw [Nat.sub_zero]; omega
          have hm0 : m < 2 ^ z.n := HM.out
          have hw6 := hst6.size
          generalize hs0e : beat q m s1 = s0 at *
          have hm0' := Lib.hid hm0
          clear hTO d0 hbl1 hm0
          rw [← hcB] at d2 HB6
          have hcn : c.toNat ≤ 4 := by omega
          generalize c.toNat = cn at *
          clear hcB
          go_wp2
          obtain ⟨wo, rfl⟩ : ∃ wo : World, wo = wr := ⟨_, rfl⟩
          go_loopw [14, 13] (fun tv lv wl => LPRel w z wo.heap.size a (cn : Int) cn t q m s0 r'.wt (splitB z.l z.n s1.beats) tv lv wl) (fun tv _ _ => cn - (intOf tv).toNat)
          case atStart => exact ⟨0, m, T2, tc2, s0, Nat.zero_le _, rfl, rfl, hm0', HTO, by rw [HSP.out]; exact hS6, hok5, hwt6, HB6, hst6⟩
          case round =>
            clear hS6 hok5 hwt6 HB6 hst6 hw6 hs5 hbw5 d1 d2 HTO
            obtain ⟨j, mj, T3, tc3, sj, hj, rfl, rfl, HMJ, HTJ, hSj, hokj, hwtj, HBj, hstj⟩ := hrel
            have d1 : wr.cell? ⟨wo.heap.size, 1, none⟩ = some (.int .i64 a) := cell_of_heap HBj.out 1
            have d2 : wr.cell? ⟨wo.heap.size, 2, none⟩ = some (.int .i64 cn) := cell_of_heap HBj.out 2
            have hlj := onesOf_lt HMJ.out n8 a sj
            have HLJ := Lib.hid hlj
            have hl256 : onesOf mj a sj < 256 := Nat.lt_of_lt_of_le hlj (Nat.pow_le_pow_right (by decide) n8)
            have hszj := hstj.size
            clear hlj
            by_cases hjc : j < cn
            · by_cases hl0 : onesOf mj a sj = 0
              · have HZ := Lib.hid hl0
                rw [hl0]
                have hz : (((0 : Nat) : Int) != 0) = false := by simp
                clear hl0 d1
                go_wp2
                go_roundw
                case rel =>
                  have hr := HR.out
                  have e1 := turns_zero (f := fun m s => t.run (q + 1) m s) (fun s => run_zero t _ s) a (cn - j) mj sj HZ.out
                  exact ⟨r', q + t.flat.length + 2, T3, tc3, sj, by (congr 1; first | done | omega), Lib.hid ⟨hr.2.1, hr.2.2.1, hr.2.2.2, by rw [hr.1, HTJ.out, e1]⟩, hqt', hSj, hokj, by omega, hrl', hstj⟩
                case measure => simp [intOf]; omega
              · have hz : (((onesOf mj a sj : Nat) : Int) != 0) = true := by rw [bne_iff_ne]; omega
                have HTS := Lib.hid (turns_succ (fun m s => t.run (q + 1) m s) a hjc mj sj)
                have hwj2 : sj.beats.length + t.wt + (cn - (j + 1)) * t.wt + r'.wt ≤ 1000000000 := by
                  have : (cn - j) * t.wt = t.wt + (cn - (j + 1)) * t.wt := by
                    rw [show cn - j = (cn - (j + 1)) + 1 by omega, Nat.add_mul]; omega
                  omega
                clear hl0
                go_wp2_with fail
                refine (HIH.out t.flat.length htl t (d - 1) (Nat.le_refl _) HT.out wr z T3 tc3 sj (q + 1) (onesOf mj a sj) (q + t.flat.length + 1) _ _ _ (cEnd :: (r'.flat ++ rest)) hSj hokj HLJ.out HDT.out (by omega) hl (by omega) (by omega) (by omega) HV.out (by omega) rfl rfl).mono ?_
                rintro e1 w8 ⟨rfl, T4, tc4, hS8, hst8⟩
                have HB8 := Lib.hid (hst8.code _ _ HBj.out)
                have hst9 := hstj.trans hst8
                have hok8 := run_ok t (d - 1) (q + 1) (onesOf mj a sj) sj HT.out HLJ.out hokj
                have hbt := run_beats t (q + 1) (onesOf mj a sj) sj
                have hwt8 : (t.run (q + 1) (onesOf mj a sj) sj).beats.length + (cn - (j + 1)) * t.wt + r'.wt ≤ 1000000000 := by omega
                have d1' : w8.cell? ⟨wo.heap.size, 1, none⟩ = some (.int .i64 a) := cell_of_heap HB8.out 1
                have hsp8 : SR w8 z T4 tc4 (splitB z.l z.n (t.run (q + 1) (onesOf mj a sj) sj).beats) (t.run (q + 1) (onesOf mj a sj) sj) := hS8
                clear hbt hS8 hst8 d1 d2 hSj hokj
                generalize t.run (q + 1) (onesOf mj a sj) sj = s8 at *
                go_wp2_with fail
                refine (ones_c hsp8 hok8 (onesOf mj a sj) HLJ.out a ha).mono ?_
                rintro e1 w9 ⟨rfl, rfl⟩
                go_wp2
                go_roundw
                case rel => exact ⟨j + 1, onesOf mj a sj, T4, tc4, s8, by omega, by go_num, rfl, HLJ, Lib.hid (by rw [HTJ.out, HTS.out]), hsp8, hok8, hwt8, HB8, hst9⟩
                case measure => simp [intOf]; omega
            · obtain rfl : j = cn := by omega
              clear d1
              go_wp2
              go_roundw
              case rel =>
                have hr := HR.out
                exact ⟨r', q + t.flat.length + 2, T3, tc3, sj, by (congr 1; first | done | omega), Lib.hid ⟨hr.2.1, hr.2.2.1, hr.2.2.2, by rw [hr.1, HTJ.out, Nat.sub_self]; rfl⟩, hqt', hSj, hokj, by omega, hrl', hstj⟩
              case measure => simp [intOf]; omega
    · go_wp2
      go_end0
      have hq := HQ.out
      have hrn : r.flat.length = 0 := by omega
      have hr0 : r = .nil := by
        cases r with
        | nil => rfl
        | _ => simp [Blk.flat] at hrn
      subst hr0
      have e : b.run p m s = s1 := hq.2.2.2
      exact ⟨rfl, T, tc, by rw [e]; exact hS, hst⟩
end Go.Proofs.Ytfgbbajkdpideaa
