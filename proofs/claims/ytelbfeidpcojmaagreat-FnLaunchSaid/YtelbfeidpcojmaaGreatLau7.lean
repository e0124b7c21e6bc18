/- Part 7 of what the claim needs. -/
import Derived.Test.YtelbfeidpcojmaaGreatLau2
import Derived.Test.YtelbfeidpcojmaaGreatLau5
import Derived.Test.YtelbfeidpcojmaaGreatLau6
import Derived.Deep.Cut
import Derived.Deep.AppendLies
import Derived.Deep.RegionHeld3
import Derived.Deep.RegionLaw
import Derived.StillTailTactics
namespace Go.Proofs.YtelbfeidpcojmaaGreat
open Go.RowKit
set_option linter.unusedVariables false
set_option linter.unusedSimpArgs false

/-- What a call of block leaves. -/
def BlockPost (w : World) (z : SW) (b : Blk) (p m : Nat) (s : LS) (e : Ending) (w' : World) : Prop :=
  e = .returned (.tuple #[]) ∧ ∃ T tc, SR w' z T tc (splitB z.l z.n (b.run p m s).beats) (b.run p m s) ∧ Stp z.B w w'

def BKRel (w : World) (z : SW) (b : Blk) (d p m te : Nat) (s : LS) (rest : List Cd) (kv : Value) (wr : World) : Prop :=
  ∃ (r : Blk) (q : Nat) (T : Option Addr) (tc : Nat) (s1 : LS), kv = .int .i64 q ∧ Hid (z.l.drop q = r.flat ++ rest ∧ q + r.flat.length = te ∧ r.ok d ∧ b.run p m s = r.run q m s1) ∧ q ≤ te ∧
    SR wr z T tc (splitB z.l z.n s1.beats) s1 ∧ SOk z.n s1 ∧ s1.beats.length + r.wt ≤ 1000000000 ∧ r.flat.length ≤ b.flat.length ∧ Stp z.B w wr

def LPRel (w : World) (z : SW) (cb : Nat) (a c : Int) (cn : Nat) (t : Blk) (q m : Nat) (s0 : LS) (rw : Nat) (sp0 : Bool) (tv lv : Value) (wl : World) : Prop :=
  ∃ (j mj : Nat) (T : Option Addr) (tc : Nat) (sj : LS), j ≤ cn ∧ tv = .int .i64 j ∧ lv = .int .i64 (onesOf mj a sj) ∧ Hid (mj < 2 ^ z.n) ∧
    Hid (turnsOf (fun m s => t.run (q + 1) m s) a cn m s0 = turnsOf (fun m s => t.run (q + 1) m s) a (cn - j) mj sj) ∧
    SR wl z T tc (splitB z.l z.n sj.beats) sj ∧ SOk z.n sj ∧ sj.beats.length + (cn - j) * t.wt + rw ≤ 1000000000 ∧ Hid (wl.heap[cb]? = some (.cells #[.int .i64 13, .int .i64 a, .int .i64 c, .int .i64 0] 76 (0, 0))) ∧ Stp z.B w wl

set_option maxRecDepth 100000 in
set_option maxHeartbeats 16000000 in
theorem block_c (N : Nat) : ∀ (b : Blk) (d : Nat), b.flat.length ≤ N → b.ok d → ∀ (w : World) (z : SW) (T : Option Addr) (tc : Nat) (s : LS) (p m te : Nat) (fi ti mi : Int) (rest : List Cd),
    SR w z T tc (splitB z.l z.n s.beats) s → SOk z.n s → m < 2 ^ z.n → z.l.drop p = b.flat ++ rest → p + b.flat.length = te → z.l.length ≤ 1000000000 → te ≤ z.l.length → z.B ≤ w.heap.size → s.beats.length + b.wt ≤ 1000000000 → (∀ x ∈ z.l, cvOk x = true) →
    fi = p → ti = te → mi = m →
    Calls Tryz.prog 114 #[.pointer (some ⟨z.g, 0, none⟩), .int .i64 fi, .int .i64 ti, .int .i64 mi] w (BlockPost w z b p m s) := by
  induction N using Nat.strongRecOn with
  | ind N IH =>
  intro b d hbN hbd w z T tc s p m te fi ti mi rest hS hok hm hdrop hte hl hle hB hwt hval hfi hti hmi
  subst hfi hti hmi
  have n8 := hok.n8
  have HIH := Lib.hid IH
  have HV := Lib.hid hval
  have m256 : m < 256 := Nat.lt_of_lt_of_le hm (Nat.pow_le_pow_right (by decide) n8)
  have HM := Lib.hid hm
  have HTE := Lib.hid hte
  have hpt : p ≤ te := by omega
  have HD := Lib.hid hdrop
  clear IH hval hm hte hdrop
  go_enter Tryz.func114, Tryz.ntmps114
  go_wp2
  go_loopw [8] (fun kv wr => BKRel w z b d p m te s rest kv wr) (fun kv _ => te - (intOf kv).toNat)
  case atStart => exact ⟨b, p, T, tc, s, rfl, Lib.hid ⟨HD.out, HTE.out, hbd, rfl⟩, hpt, hS, hok, hwt, Nat.le_refl _, Stp.refl _ _⟩
  case round =>
    clear hS hok hwt
    obtain ⟨r, q, T, tc, s1, rfl, HQ, hqt, hS, hok, hwt, hrl, hst⟩ := hrel
    have hsz := hst.size
    by_cases hlt : q < te
    · by_cases hm0 : m = 0
      · subst hm0
        have h0 : (((0 : Nat) : Int) != 0) = false := by simp
        go_wp2
        go_end0
        have hq := HQ.out
        have e : b.run p 0 s = s1 := by rw [hq.2.2.2, run_zero]
        exact ⟨rfl, T, tc, by rw [e]; exact hS, hst⟩
      · have h0 : ((m : Int) != 0) = true := by rw [bne_iff_ne]; omega
        obtain ⟨c0, c1, c2, c3, c4, c5, c6⟩ := hS.cells
        have hBr : z.B ≤ wr.heap.size := by omega
        obtain ⟨lb, off, x, hA, hbB, hx, l0, l1, l2, l3⟩ := hS.lst.at_ (show q < z.l.length by omega)
        rw [hA] at c0
        have HX := Lib.hid hx
        have HA := Lib.hid hA
        have hgl := hS.glt
        have hft := hS.trc.alloc (.cells #[.int .i64 x.op, .int .i64 x.a, .int .i64 x.b, .int .i64 x.c] 76)
        have hft2 := hft.alloc (.cells #[.int .i64 q, .int .i64 m] 78)
        have HFT := Lib.hid hft2
        have HS := Lib.hid hS
        have hql : (q : Int) < (z.l.length : Int) := by omega
        have hql2 : q < z.l.length := by omega
        have hbl : s1.beats.length ≤ 1000000000 := by omega
        have hbB2 : lb < wr.heap.size := by omega
        clear hx hA hft hft2 hS hm0
        go_wp2_with (at_builtin; refine app_row 47 78 _ 2 16 Tryz.underlying47 infoBeat rfl (by decide) (by decide) rfl _ _ rfl z.B T s1.beats.length tc _ HFT.out rfl (wr.heap.size + 1) 1 1 [.int .i64 q, .int .i64 m] rfl rfl ?hc ?h1 ?hn ?hb ?_)
        case hc =>
          intro j u hu
          match j, hu with
          | 0, hu => simp at hu; subst hu; simp [go_sem]
          | 1, hu => simp at hu; subst hu; simp [go_sem]
        case h1 => intro u hu; simp at hu; rcases hu with rfl | rfl <;> rfl
        case hn => omega
        case hb => simp; omega
        intro T2 tc2 w2 ho2 hg2
        have hX1 := Ext.alloc wr (.cells #[.int .i64 x.op, .int .i64 x.a, .int .i64 x.b, .int .i64 x.c] 76)
        have hbx := heap_alloc_new wr (.cells #[.int .i64 x.op, .int .i64 x.a, .int .i64 x.b, .int .i64 x.c] 76)
        have hX2 := Ext.alloc (wr.alloc (.cells #[.int .i64 x.op, .int .i64 x.a, .int .i64 x.b, .int .i64 x.c] 76)) (.cells #[.int .i64 q, .int .i64 m] 78)
        have HX12 := Lib.hid (hX1.trans hX2)
        have HG2 := Lib.hid hg2
        have hS2 := HS.out.beat_ (hX1.trans hX2) hBr hg2 ho2
        have hw2s : wr.heap.size + 2 ≤ w2.heap.size := by have := hg2.size; simp at this; omega
        have hg4 : w2.heap[z.g]? = some (.cells (z.row s1 T tc (splitB z.l z.n s1.beats)) 102 (0, 0)) := by
          have e1 := (HS.out.ext (hX1.trans hX2) hBr)
          rw [hg2.block _ e1.glt (fun e => e1.t_g e.symm)]
          exact e1.blk
        have q4 : w2.cell? ⟨z.g, 4, none⟩ = some (.slice T s1.beats.length tc) := cell_of_heap hg4 4
        have f4 := free_of_heap hg4 4
        have hbx2 : w2.heap[wr.heap.size]? = some (.cells #[.int .i64 x.op, .int .i64 x.a, .int .i64 x.b, .int .i64 x.c] 76 (0, 0)) := by
          have hb1 := hX2.heap_ hbx
          rw [hg2.block _ (lt_of_block hb1) (fun e => own_ne (HS.out.ext (hX1.trans hX2) hBr).trc hb1 (by decide) e.symm)]
          exact hb1
        have HB2 := Lib.hid hbx2
        have HS2 := Lib.hid hS2
        have HG4 := Lib.hid hg4
        have hgne : ¬ z.g = wr.heap.size := by omega
        clear hX1 hX2 hbx hg2 ho2 hS2 hg4 hbx2 c0 c1 c2 c3 c4 c5 c6 l0 l1 l2 l3 HFT
        go_upto_region 5 with (fail)
        obtain ⟨hS4, hst4⟩ := HS2.out
        have hb4 : (w2.setCell ⟨z.g, 4, none⟩ (.slice T2 (s1.beats.length + 1) tc2)).heap[wr.heap.size]? = some (.cells #[.int .i64 x.op, .int .i64 x.a, .int .i64 x.b, .int .i64 x.c] 76 (0, 0)) := by
          rw [heap_set_other (fun e => hgne e.symm)]; exact HB2.out
        have hst40 := hst.trans hst4
        generalize w2.setCell ⟨z.g, 4, none⟩ (.slice T2 (s1.beats.length + 1) tc2) = w4 at *
        have HB4 := Lib.hid hb4
        obtain ⟨c0, c1, c2, c3, c4, c5, c6⟩ := hS4.cells
        have d0 := cell_of_heap hb4 0
        have d1 := cell_of_heap hb4 1
        have d2 := cell_of_heap hb4 2
        have d3 := cell_of_heap hb4 3
        have hs4 := hst40.size
        clear q4 f4 HB2 HG4 HS2 HG2 hw2s hb4 hst4 HX12 hst
        clear w2
        go_wp2_with fail
        refine (l4Opens_c x _).mono ?_
        rintro e w5 ⟨rfl, hb5⟩
        have hX5 := Ext.of_below hb5
        have hBr4 : z.B ≤ w4.heap.size := by omega
        have hS5 := hS4.ext hX5 hBr4
        have hst5 := hst40.trans (Stp.of_ext hX5 hBr4)
        have HB5 := Lib.hid (hX5.heap_ HB4.out)
        have hok5 := hok.beat q m
        have hs5 := hst5.size
        clear HB4 hS4 hst40 hb5 hX5 c0 c1 c2 c3 c4 c5 c6 d0 d1 d2 d3 hBr4 hs4
        clear w4
        cases r with
        | nil =>
          have hq := HQ.out
          simp [Blk.flat] at hq
          omega
        | op x' r' =>
          have hq := HQ.out
          obtain ⟨hq1, hq2, hq3, hq4⟩ := hq
          obtain ⟨hvx, h1x, h10x, hr'⟩ := hq3
          have hdr := drop_cons hq1
          obtain rfl : x = x' := by have h := HX.out; rw [hdr.1] at h; injection h with h; exact h.symm
          have hop : opB x = false := by simp [opB]; omega
          have hrun : Blk.run (.op x r') q m s1 = r'.run (q + 1) m (execM x m (beat q m s1)) := by
            simp only [Blk.run]; rw [if_neg (by intro e; subst e; simp at h0)]
          have HR := Lib.hid (And.intro (hq4.trans hrun) (And.intro hdr.2.1 (And.intro (show q + 1 + r'.flat.length = te by simp [Blk.flat] at hq2; omega) hr')))
          have hwt' : s1.beats.length + 1 + r'.wt ≤ 1000000000 := by simp only [Blk.wt] at hwt; omega
          have hrl' : r'.flat.length ≤ b.flat.length := by simp [Blk.flat] at hrl; omega
          have hqt' : q + 1 ≤ te := by omega
          clear hq1 hq2 hq4 hdr hrun hr' hwt hrl HQ
          rw [hop]
          clear hop
          obtain ⟨c0, c1, c2, c3, c4, c5, c6⟩ := hS5.cells
          have d0 := cell_of_heap HB5.out 0
          have d1 := cell_of_heap HB5.out 1
          have d2 := cell_of_heap HB5.out 2
          have d3 := cell_of_heap HB5.out 3
          have hbw5 : wr.heap.size < w5.heap.size := lt_of_block HB5.out
          rw [HA.out] at c0
          cases e10 : x.op == 10 with
          | false =>
            have hsp : splitB z.l z.n (execM x m (beat q m s1)).beats = splitB z.l z.n s1.beats := by
              rw [execM_beats, run_split]
              rw [opAt_get HX.out]; exact beq_eq_false_iff_ne.1 e10
            have hex : execM x m (beat q m s1) = execTo x m (beat q m s1) z.n := by rw [execM_eq HM.out n8, e10]; rfl
            have HSP := Lib.hid hsp
            have HEX := Lib.hid hex
            clear hsp hex
            go_wp2
            clear c0 c1 c2 c3 c4 c5 c6 d0 d1 d2 d3
            obtain ⟨wo, rfl⟩ : ∃ wo : World, wo = wr := ⟨_, rfl⟩
            go_loopw [15] (fun nv wn => ∃ k : Nat, k ≤ z.n ∧ nv = .int .i64 k ∧ SR wn z T2 tc2 (splitB z.l z.n s1.beats) (execTo x m (beat q m s1) k) ∧ SOk z.n (execTo x m (beat q m s1) k) ∧ Hid (wn.heap[wo.heap.size]? = some (.cells #[.int .i64 x.op, .int .i64 x.a, .int .i64 x.b, .int .i64 x.c] 76 (0, 0))) ∧ Stp z.B w wn) (fun nv _ => z.n - (intOf nv).toNat)
            case atStart => exact ⟨0, Nat.zero_le _, rfl, hS5, hok5, HB5, hst5⟩
            case round =>
              clear hS5 hok5 HB5 hst5 hs5 hbw5
              obtain ⟨k, hk, rfl, hSn, hokn, HBn, hstn⟩ := hrel
              obtain ⟨c0, c1, c2, c3, c4, c5, c6⟩ := hSn.cells
              by_cases hkn : k < z.n
              · have hbt := bit_tm m k
                have hex1 : execTo x m (beat q m s1) (k + 1) = if m.testBit k then exec1 x (execTo x m (beat q m s1) k) k else execTo x m (beat q m s1) k := rfl
                have HE1 := Lib.hid hex1
                clear hex1
                generalize execTo x m (beat q m s1) k = sk at *
                cases hb : m.testBit k with
                | false =>
                  rw [hb] at hbt
                  have HB := Lib.hid hb
                  clear hb c0 c2 c3 c4 c5 c6
                  go_wp2
                  go_roundw
                  case rel => exact ⟨k + 1, by omega, by go_num, by rw [HE1.out, HB.out]; exact hSn, by rw [HE1.out, HB.out]; exact hokn, HBn, hstn⟩
                  case measure => simp [intOf]; omega
                | true =>
                  rw [hb] at hbt
                  have HB := Lib.hid hb
                  have hrow := hSn.rowAt hkn
                  have d0 := cell_of_heap HBn.out 0
                  have d1 := cell_of_heap HBn.out 1
                  have d2 := cell_of_heap HBn.out 2
                  have d3 := cell_of_heap HBn.out 3
                  have hkI : (k : Int) < (z.n : Int) := by omega
                  clear hb c0 c4 c5 c6
                  go_wp2_with fail
                  go_still_tail 13, (by kernel_rfl)
                  go_wp2_with fail
                  have hXd : Ext wr wr.drew := Ext.drew wr
                  have hBn : z.B ≤ wr.heap.size := by have := hstn.size; omega
                  have hSd := hSn.ext hXd hBn
                  refine (l6Simple_c x k (sk.regs.getD k []) sk.mem z.B (z.rk k) 4 z.mb z.mc sk.mem.length _ hvx h10x (by omega) (hSd.inn k hkn) hSd.mem (hSd.mne k hkn) (hokn.get hkn).2 hokn.memw ⟨hokn.mem1, hokn.mem2⟩).mono ?_
                  rintro e w6 ⟨rfl, hs⟩
                  obtain ⟨hS6, hst6⟩ := hSd.simp hkn hokn rfl hBn hs
                  have hst7 := (hstn.trans (Stp.of_ext hXd hBn)).trans hst6
                  have HB6 := Lib.hid (hst6.code _ _ (hXd.heap_ HBn.out))
                  have hok6 := hokn.exec1 hvx hkn
                  clear hs hXd hSd hrow d0 d1 d2 d3 c2 c3
                  go_wp2
                  go_roundw
                  case rel => exact ⟨k + 1, by omega, by go_num, by rw [HE1.out, HB.out]; exact hS6, by rw [HE1.out, HB.out]; exact hok6, HB6, hst7⟩
                  case measure => simp [intOf]; omega
              · obtain rfl : k = z.n := by omega
                clear c0 c2 c3 c4 c5 c6
                go_wp2
                go_roundw
                case rel =>
                  have hr := HR.out
                  refine ⟨r', q + 1, T2, tc2, execM x m (beat q m s1), by go_num, Lib.hid ⟨hr.2.1, hr.2.2.1, hr.2.2.2, hr.1⟩, hqt', ?_, by rw [HEX.out]; exact hokn, by rw [execM_beats]; simpa [beat] using hwt', hrl', hstn⟩
                  rw [HSP.out, HEX.out]
                  exact hSn
                case measure => simp [intOf]; omega
          | true =>
            have hz1 : 1 ≤ z.n := by
              have := HM.out
              rcases Nat.eq_zero_or_pos z.n with e | e
              · rw [e] at this; simp at this; subst this; simp at h0
              · exact e
            have hop10 : (opAt z.l q == 10) = true := by rw [opAt_get HX.out]; exact e10
            have hmall : maskAllI z.n = ((2 ^ z.n - 1 : Nat) : Int) := by
              have e1 : inR (z.n : Int) 1 8 = true := by rw [inR_iff]; omega
              have e2 : 1 ≤ 2 ^ z.n := Nat.one_le_two_pow
              have e3 : ((2 : Int) ^ z.n) = ((2 ^ z.n : Nat) : Int) := by simp
              simp only [maskAllI, e1, if_true, Int.toNat_natCast, e3]
              omega
            have hmb : ((m : Int) != maskAllI z.n) = !(m == 2 ^ z.n - 1) := by
              rw [hmall]
              cases hc : (m == 2 ^ z.n - 1) with
              | true => have := beq_iff_eq.1 hc; rw [this]; simp
              | false => have := beq_eq_false_iff_ne.1 hc; simp only [Bool.not_false, bne_iff_ne]; omega
            have hsp : splitB z.l z.n (execM x m (beat q m s1)).beats = (splitB z.l z.n s1.beats || !(m == 2 ^ z.n - 1)) := by
              rw [execM_beats]
              show splitB z.l z.n (s1.beats ++ [(q, m)]) = _
              rw [splitB_snoc, hop10, Bool.true_and]
            have hex : ∀ T tc sp wz, SR wz z T tc sp (execTo x m (beat q m s1) z.n) → SR wz z T tc sp (execM x m (beat q m s1)) := by
              intro T tc sp wz h
              rw [execM_eq HM.out n8, e10]
              exact ⟨h.blk, h.gB, h.out, h.inn, h.mem, h.trc, h.inj, h.mne, h.lst⟩
            have hokx := hok5.execM hvx HM.out
            have HOKX := Lib.hid hokx
            have HSP := Lib.hid hsp
            have HEX := Lib.hid hex
            have HMB := Lib.hid hmb
            clear hop10 hmall hsp hex hmb hokx
            have hg5 := hS5.blk
            have f5 := free_of_heap hg5 5
            clear hg5
            cases hs0 : splitB z.l z.n s1.beats with
            | true =>
              rw [hs0] at c5 hS5
              have HS0 := Lib.hid hs0
              clear hs0
              go_upto_region 24 with (fail)
              obtain ⟨hS8, hst8⟩ := hS5.spl (by omega) true
              have hB8 := Lib.hid (hst8.code _ _ HB5.out)
              replace hst5 := hst5.trans hst8
              generalize w5.setCell ⟨z.g, 5, none⟩ (.bool true) = w8 at *
              clear hst8 hS5 HB5
              go_wp2
              clear c0 c1 c2 c3 c4 c5 c6 d0 d1 d2 d3
              obtain ⟨wo, rfl⟩ : ∃ wo : World, wo = wr := ⟨_, rfl⟩
              go_loopw [15] (fun nv wn => ∃ k : Nat, k ≤ z.n ∧ nv = .int .i64 k ∧ SR wn z T2 tc2 true (execTo x m (beat q m s1) k) ∧ SOk z.n (execTo x m (beat q m s1) k) ∧ Hid (wn.heap[wo.heap.size]? = some (.cells #[.int .i64 x.op, .int .i64 x.a, .int .i64 x.b, .int .i64 x.c] 76 (0, 0))) ∧ Stp z.B w wn) (fun nv _ => z.n - (intOf nv).toNat)
              case atStart => exact ⟨0, Nat.zero_le _, rfl, hS8, hok5, hB8, hst5⟩
              case round =>
                clear hS8 hok5 hB8 hst5 hs5 hbw5
                obtain ⟨k, hk, rfl, hSn, hokn, HBn, hstn⟩ := hrel
                obtain ⟨c0, c1, c2, c3, c4, c5, c6⟩ := hSn.cells
                by_cases hkn : k < z.n
                · have hbt := bit_tm m k
                  have hex1 : execTo x m (beat q m s1) (k + 1) = if m.testBit k then exec1 x (execTo x m (beat q m s1) k) k else execTo x m (beat q m s1) k := rfl
                  have HE1 := Lib.hid hex1
                  clear hex1
                  generalize execTo x m (beat q m s1) k = sk at *
                  cases hb : m.testBit k with
                  | false =>
                    rw [hb] at hbt
                    have HB := Lib.hid hb
                    clear hb c0 c2 c3 c4 c5 c6
                    go_wp2
                    go_roundw
                    case rel => exact ⟨k + 1, by omega, by go_num, by rw [HE1.out, HB.out]; exact hSn, by rw [HE1.out, HB.out]; exact hokn, HBn, hstn⟩
                    case measure => simp [intOf]; omega
                  | true =>
                    rw [hb] at hbt
                    have HB := Lib.hid hb
                    have hrow := hSn.rowAt hkn
                    have d0 := cell_of_heap HBn.out 0
                    have d1 := cell_of_heap HBn.out 1
                    have d2 := cell_of_heap HBn.out 2
                    have d3 := cell_of_heap HBn.out 3
                    have hkI : (k : Int) < (z.n : Int) := by omega
                    clear hb c0 c4 c5 c6
                    go_wp2_with fail
                    go_still_tail 13, (by kernel_rfl)
                    go_wp2_with fail
                    have hXd : Ext wr wr.drew := Ext.drew wr
                    have hBn : z.B ≤ wr.heap.size := by have := hstn.size; omega
                    have hSd := hSn.ext hXd hBn
                    refine (l6Simple_c x k (sk.regs.getD k []) sk.mem z.B (z.rk k) 4 z.mb z.mc sk.mem.length _ hvx h10x (by omega) (hSd.inn k hkn) hSd.mem (hSd.mne k hkn) (hokn.get hkn).2 hokn.memw ⟨hokn.mem1, hokn.mem2⟩).mono ?_
                    rintro e w6 ⟨rfl, hs⟩
                    obtain ⟨hS6, hst6⟩ := hSd.simp hkn hokn rfl hBn hs
                    have hst7 := (hstn.trans (Stp.of_ext hXd hBn)).trans hst6
                    have HB6 := Lib.hid (hst6.code _ _ (hXd.heap_ HBn.out))
                    have hok6 := hokn.exec1 hvx hkn
                    clear hs hXd hSd hrow d0 d1 d2 d3 c2 c3
                    go_wp2
                    go_roundw
                    case rel => exact ⟨k + 1, by omega, by go_num, by rw [HE1.out, HB.out]; exact hS6, by rw [HE1.out, HB.out]; exact hok6, HB6, hst7⟩
                    case measure => simp [intOf]; omega
                · obtain rfl : k = z.n := by omega
                  clear c0 c2 c3 c4 c5 c6
                  go_wp2
                  go_roundw
                  case rel =>
                    have hr := HR.out
                    refine ⟨r', q + 1, T2, tc2, execM x m (beat q m s1), by go_num, Lib.hid ⟨hr.2.1, hr.2.2.1, hr.2.2.2, hr.1⟩, hqt', ?_, HOKX.out, by rw [execM_beats]; simpa [beat] using hwt', hrl', hstn⟩
                    rw [HSP.out, HS0.out]
                    exact HEX.out _ _ _ _ hSn
                  case measure => simp [intOf]; omega
            | false =>
              rw [hs0] at c5 hS5
              have HS0 := Lib.hid hs0
              clear hs0
              go_wp2_with fail
              refine (sMaskAll_c _ _).mono ?_
              rintro e w6 ⟨rfl, rfl⟩
              have hmb := HMB.out
              cases hml : (m == 2 ^ z.n - 1) with
              | true =>
                rw [hml] at hmb
                have HML := Lib.hid hml
                clear hml
                go_upto_region 24 with (fail)
                obtain ⟨hS8, hst8⟩ := hS5.spl (by omega) false
                have hB8 := Lib.hid (hst8.code _ _ HB5.out)
                replace hst5 := hst5.trans hst8
                generalize w5.setCell ⟨z.g, 5, none⟩ (.bool false) = w8 at *
                clear hst8 hS5 HB5 hmb
                go_wp2
                clear c0 c1 c2 c3 c4 c5 c6 d0 d1 d2 d3
                obtain ⟨wo, rfl⟩ : ∃ wo : World, wo = wr := ⟨_, rfl⟩
                go_loopw [15] (fun nv wn => ∃ k : Nat, k ≤ z.n ∧ nv = .int .i64 k ∧ SR wn z T2 tc2 false (execTo x m (beat q m s1) k) ∧ SOk z.n (execTo x m (beat q m s1) k) ∧ Hid (wn.heap[wo.heap.size]? = some (.cells #[.int .i64 x.op, .int .i64 x.a, .int .i64 x.b, .int .i64 x.c] 76 (0, 0))) ∧ Stp z.B w wn) (fun nv _ => z.n - (intOf nv).toNat)
                case atStart => exact ⟨0, Nat.zero_le _, rfl, hS8, hok5, hB8, hst5⟩
                case round =>
                  clear hS8 hok5 hB8 hst5 hs5 hbw5
                  obtain ⟨k, hk, rfl, hSn, hokn, HBn, hstn⟩ := hrel
                  obtain ⟨c0, c1, c2, c3, c4, c5, c6⟩ := hSn.cells
                  by_cases hkn : k < z.n
                  · have hbt := bit_tm m k
                    have hex1 : execTo x m (beat q m s1) (k + 1) = if m.testBit k then exec1 x (execTo x m (beat q m s1) k) k else execTo x m (beat q m s1) k := rfl
                    have HE1 := Lib.hid hex1
                    clear hex1
                    generalize execTo x m (beat q m s1) k = sk at *
                    cases hb : m.testBit k with
                    | false =>
                      rw [hb] at hbt
                      have HB := Lib.hid hb
                      clear hb c0 c2 c3 c4 c5 c6
                      go_wp2
                      go_roundw
                      case rel => exact ⟨k + 1, by omega, by go_num, by rw [HE1.out, HB.out]; exact hSn, by rw [HE1.out, HB.out]; exact hokn, HBn, hstn⟩
                      case measure => simp [intOf]; omega
                    | true =>
                      rw [hb] at hbt
                      have HB := Lib.hid hb
                      have hrow := hSn.rowAt hkn
                      have d0 := cell_of_heap HBn.out 0
                      have d1 := cell_of_heap HBn.out 1
                      have d2 := cell_of_heap HBn.out 2
                      have d3 := cell_of_heap HBn.out 3
                      have hkI : (k : Int) < (z.n : Int) := by omega
                      clear hb c0 c4 c5 c6
                      go_wp2_with fail
                      go_still_tail 13, (by kernel_rfl)
                      go_wp2_with fail
                      have hXd : Ext wr wr.drew := Ext.drew wr
                      have hBn : z.B ≤ wr.heap.size := by have := hstn.size; omega
                      have hSd := hSn.ext hXd hBn
                      refine (l6Simple_c x k (sk.regs.getD k []) sk.mem z.B (z.rk k) 4 z.mb z.mc sk.mem.length _ hvx h10x (by omega) (hSd.inn k hkn) hSd.mem (hSd.mne k hkn) (hokn.get hkn).2 hokn.memw ⟨hokn.mem1, hokn.mem2⟩).mono ?_
                      rintro e w6 ⟨rfl, hs⟩
                      obtain ⟨hS6, hst6⟩ := hSd.simp hkn hokn rfl hBn hs
                      have hst7 := (hstn.trans (Stp.of_ext hXd hBn)).trans hst6
                      have HB6 := Lib.hid (hst6.code _ _ (hXd.heap_ HBn.out))
                      have hok6 := hokn.exec1 hvx hkn
                      clear hs hXd hSd hrow d0 d1 d2 d3 c2 c3
                      go_wp2
                      go_roundw
                      case rel => exact ⟨k + 1, by omega, by go_num, by rw [HE1.out, HB.out]; exact hS6, by rw [HE1.out, HB.out]; exact hok6, HB6, hst7⟩
                      case measure => simp [intOf]; omega
                  · obtain rfl : k = z.n := by omega
                    clear c0 c2 c3 c4 c5 c6
                    go_wp2
                    go_roundw
                    case rel =>
                      have hr := HR.out
                      refine ⟨r', q + 1, T2, tc2, execM x m (beat q m s1), by go_num, Lib.hid ⟨hr.2.1, hr.2.2.1, hr.2.2.2, hr.1⟩, hqt', ?_, HOKX.out, by rw [execM_beats]; simpa [beat] using hwt', hrl', hstn⟩
                      rw [HSP.out, HS0.out, HML.out]
                      exact HEX.out _ _ _ _ hSn
                    case measure => simp [intOf]; omega
              | false =>
                rw [hml] at hmb
                have HML := Lib.hid hml
                clear hml
                go_upto_region 24 with (fail)
                obtain ⟨hS8, hst8⟩ := hS5.spl (by omega) true
                have hB8 := Lib.hid (hst8.code _ _ HB5.out)
                replace hst5 := hst5.trans hst8
                generalize w5.setCell ⟨z.g, 5, none⟩ (.bool true) = w8 at *
                clear hst8 hS5 HB5 hmb
                go_wp2
                clear c0 c1 c2 c3 c4 c5 c6 d0 d1 d2 d3
                obtain ⟨wo, rfl⟩ : ∃ wo : World, wo = wr := ⟨_, rfl⟩
                go_loopw [15] (fun nv wn => ∃ k : Nat, k ≤ z.n ∧ nv = .int .i64 k ∧ SR wn z T2 tc2 true (execTo x m (beat q m s1) k) ∧ SOk z.n (execTo x m (beat q m s1) k) ∧ Hid (wn.heap[wo.heap.size]? = some (.cells #[.int .i64 x.op, .int .i64 x.a, .int .i64 x.b, .int .i64 x.c] 76 (0, 0))) ∧ Stp z.B w wn) (fun nv _ => z.n - (intOf nv).toNat)
                case atStart => exact ⟨0, Nat.zero_le _, rfl, hS8, hok5, hB8, hst5⟩
                case round =>
                  clear hS8 hok5 hB8 hst5 hs5 hbw5
                  obtain ⟨k, hk, rfl, hSn, hokn, HBn, hstn⟩ := hrel
                  obtain ⟨c0, c1, c2, c3, c4, c5, c6⟩ := hSn.cells
                  by_cases hkn : k < z.n
                  · have hbt := bit_tm m k
                    have hex1 : execTo x m (beat q m s1) (k + 1) = if m.testBit k then exec1 x (execTo x m (beat q m s1) k) k else execTo x m (beat q m s1) k := rfl
                    have HE1 := Lib.hid hex1
                    clear hex1
                    generalize execTo x m (beat q m s1) k = sk at *
                    cases hb : m.testBit k with
                    | false =>
                      rw [hb] at hbt
                      have HB := Lib.hid hb
                      clear hb c0 c2 c3 c4 c5 c6
                      go_wp2
                      go_roundw
                      case rel => exact ⟨k + 1, by omega, by go_num, by rw [HE1.out, HB.out]; exact hSn, by rw [HE1.out, HB.out]; exact hokn, HBn, hstn⟩
                      case measure => simp [intOf]; omega
                    | true =>
                      rw [hb] at hbt
                      have HB := Lib.hid hb
                      have hrow := hSn.rowAt hkn
                      have d0 := cell_of_heap HBn.out 0
                      have d1 := cell_of_heap HBn.out 1
                      have d2 := cell_of_heap HBn.out 2
                      have d3 := cell_of_heap HBn.out 3
                      have hkI : (k : Int) < (z.n : Int) := by omega
                      clear hb c0 c4 c5 c6
                      go_wp2_with fail
                      go_still_tail 13, (by kernel_rfl)
                      go_wp2_with fail
                      have hXd : Ext wr wr.drew := Ext.drew wr
                      have hBn : z.B ≤ wr.heap.size := by have := hstn.size; omega
                      have hSd := hSn.ext hXd hBn
                      refine (l6Simple_c x k (sk.regs.getD k []) sk.mem z.B (z.rk k) 4 z.mb z.mc sk.mem.length _ hvx h10x (by omega) (hSd.inn k hkn) hSd.mem (hSd.mne k hkn) (hokn.get hkn).2 hokn.memw ⟨hokn.mem1, hokn.mem2⟩).mono ?_
                      rintro e w6 ⟨rfl, hs⟩
                      obtain ⟨hS6, hst6⟩ := hSd.simp hkn hokn rfl hBn hs
                      have hst7 := (hstn.trans (Stp.of_ext hXd hBn)).trans hst6
                      have HB6 := Lib.hid (hst6.code _ _ (hXd.heap_ HBn.out))
                      have hok6 := hokn.exec1 hvx hkn
                      clear hs hXd hSd hrow d0 d1 d2 d3 c2 c3
                      go_wp2
                      go_roundw
                      case rel => exact ⟨k + 1, by omega, by go_num, by rw [HE1.out, HB.out]; exact hS6, by rw [HE1.out, HB.out]; exact hok6, HB6, hst7⟩
                      case measure => simp [intOf]; omega
                  · obtain rfl : k = z.n := by omega
                    clear c0 c2 c3 c4 c5 c6
                    go_wp2
                    go_roundw
                    case rel =>
                      have hr := HR.out
                      refine ⟨r', q + 1, T2, tc2, execM x m (beat q m s1), by go_num, Lib.hid ⟨hr.2.1, hr.2.2.1, hr.2.2.2, hr.1⟩, hqt', ?_, HOKX.out, by rw [execM_beats]; simpa [beat] using hwt', hrl', hstn⟩
                      rw [HSP.out, HS0.out, HML.out]
                      exact HEX.out _ _ _ _ hSn
                    case measure => simp [intOf]; omega
        | iff a t r' =>
          have hq := HQ.out
          obtain ⟨hq1, hq2, hq3, hq4⟩ := hq
          obtain ⟨ha, hd1, ht, hr'⟩ := hq3
          have hq1' : z.l.drop q = cIf a :: (t.flat ++ cEnd :: (r'.flat ++ rest)) := by rw [hq1]; simp [Blk.flat]
          obtain ⟨hend, hdt, hdr⟩ := end_iff ht hq1'
          have hxx := (drop_cons hq1').1
          obtain rfl : x = cIf a := by have h := HX.out; rw [hxx] at h; injection h with h; exact h.symm
          have hop : opB (cIf a) = true := rfl
          have hm0 : ¬ m = 0 := by intro e; subst e; simp at h0
          have hrun : Blk.run (.iff a t r') q m s1 = r'.run (q + t.flat.length + 2) m (t.run (q + 1) (onesOf m a s1) (beat q m s1)) := by
            simp only [Blk.run]; rw [if_neg hm0]
          have hlen : q + t.flat.length + 2 + r'.flat.length = te := by simp [Blk.flat] at hq2; omega
          have HR := Lib.hid (And.intro (hq4.trans hrun) (And.intro hdr (And.intro hlen hr')))
          have hwt1 : s1.beats.length + 1 + t.wt + r'.wt ≤ 1000000000 := by simp only [Blk.wt] at hwt; omega
          have hrl' : r'.flat.length ≤ b.flat.length := by simp [Blk.flat] at hrl; omega
          have htl : t.flat.length < N := by simp [Blk.flat] at hrl; omega
          have hqt' : q + t.flat.length + 2 ≤ te := by omega
          have hol := onesOf_lt HM.out n8 a s1
          have hsp : splitB z.l z.n (beat q m s1).beats = splitB z.l z.n s1.beats := run_split (by rw [opAt_get HX.out]; exact (by decide : (11 : Int) ≠ 10))
          have HSP := Lib.hid hsp
          have HEND := Lib.hid hend
          have HDT := Lib.hid hdt
          have HT := Lib.hid ht
          have HOL := Lib.hid hol
          have hlen2 : q + t.flat.length + 1 < z.l.length := by omega
          clear hq1 hq1' hq2 hq4 hdr hrun hr' hwt hrl HQ hend hdt ht hol hsp hm0 hxx
          rw [hop]
          clear hop
          obtain ⟨c0, c1, c2, c3, c4, c5, c6⟩ := hS5.cells
          have d0 : w5.cell? ⟨wr.heap.size, 0, none⟩ = some (.int .i64 11) := cell_of_heap HB5.out 0
          have d1 : w5.cell? ⟨wr.heap.size, 1, none⟩ = some (.int .i64 a) := cell_of_heap HB5.out 1
          have hbw5 : wr.heap.size < w5.heap.size := lt_of_block HB5.out
          have hR5 := hS5.lst.more (show z.B ≤ w5.heap.size by omega)
          rw [HA.out] at c0 hR5
          go_wp2_with fail
          refine (l4End_c _ z.ca z.l q _ hR5 hl hql2).mono ?_
          rintro e w6 ⟨rfl, hb6⟩
          rw [HEND.out]
          have hX6 := Ext.of_below hb6
          have hS6 := hS5.ext hX6 (by omega)
          have hst6 := hst5.trans (Stp.of_ext hX6 (by omega))
          replace d0 := hX6.cell d0
          replace d1 := hX6.cell d1
          clear c0 c1 c2 c3 c4 c5 c6 hR5 hS5 hst5 hX6 hb6
          go_wp2_with fail
          refine (ones_c hS6 hok5 m HM.out a ha).mono ?_
          rintro e w7 ⟨rfl, rfl⟩
          have hon : onesOf m a (beat q m s1) = onesOf m a s1 := rfl
          rw [hon]
          go_wp2_with fail
          refine (HIH.out t.flat.length htl t (d - 1) (Nat.le_refl _) HT.out w6 z T2 tc2 (beat q m s1) (q + 1) (onesOf m a s1) (q + t.flat.length + 1) _ _ _ (cEnd :: (r'.flat ++ rest)) (by rw [HSP.out]; exact hS6) hok5 HOL.out HDT.out (by omega) hl (by omega) (by have := hst6.size; omega) (by simp [beat]; omega) HV.out (by omega) rfl rfl).mono ?_
          rintro e w8 ⟨rfl, T3, tc3, hS8, hst8⟩
          replace hst6 := hst6.trans hst8
          have hok8 := run_ok t (d - 1) (q + 1) (onesOf m a s1) (beat q m s1) HT.out HOL.out hok5
          have hbt := run_beats t (q + 1) (onesOf m a s1) (beat q m s1)
          have hbl1 : (beat q m s1).beats.length = s1.beats.length + 1 := by simp [beat]
          have hwt8 : (t.run (q + 1) (onesOf m a s1) (beat q m s1)).beats.length + r'.wt ≤ 1000000000 := by omega
          clear hbt hbl1 hS6 d0 d1 hst8
          go_wp2
          go_roundw
          case rel =>
            have hr := HR.out
            exact ⟨r', q + t.flat.length + 2, T3, tc3, _, by (congr 1; first | done | omega), Lib.hid ⟨hr.2.1, hr.2.2.1, hr.2.2.2, hr.1⟩, hqt', hS8, hok8, hwt8, hrl', hst6⟩
          case measure => simp [intOf]; omega
        | ife a t e r' =>
          have hq := HQ.out
          obtain ⟨hq1, hq2, hq3, hq4⟩ := hq
          obtain ⟨ha, hd1, ht, he, hr'⟩ := hq3
          have hq1' : z.l.drop q = cIf a :: (t.flat ++ cElse :: (e.flat ++ cEnd :: (r'.flat ++ rest))) := by rw [hq1]; simp [Blk.flat]
          obtain ⟨hend, hdt, hde, hdr⟩ := end_ife ht he hq1'
          have hxx := (drop_cons hq1').1
          obtain rfl : x = cIf a := by have h := HX.out; rw [hxx] at h; injection h with h; exact h.symm
          have hop : opB (cIf a) = true := rfl
          have hm0 : ¬ m = 0 := by intro e; subst e; simp at h0
          have hrun : Blk.run (.ife a t e r') q m s1 = r'.run (q + t.flat.length + e.flat.length + 3) m (e.run (q + t.flat.length + 2) (mdiff m (onesOf m a s1)) (t.run (q + 1) (onesOf m a s1) (beat q m s1))) := by
            simp only [Blk.run]; rw [if_neg hm0]
          have hlen : q + t.flat.length + e.flat.length + 3 + r'.flat.length = te := by simp [Blk.flat] at hq2; omega
          have HR := Lib.hid (And.intro (hq4.trans hrun) (And.intro hdr (And.intro hlen hr')))
          have hwt1 : s1.beats.length + 1 + t.wt + e.wt + r'.wt ≤ 1000000000 := by simp only [Blk.wt] at hwt; omega
          have hrl' : r'.flat.length ≤ b.flat.length := by simp [Blk.flat] at hrl; omega
          have htl : t.flat.length < N := by simp [Blk.flat] at hrl; omega
          have hel : e.flat.length < N := by simp [Blk.flat] at hrl; omega
          have hqt' : q + t.flat.length + e.flat.length + 3 ≤ te := by omega
          have hml : mdiff m (onesOf m a s1) < 2 ^ z.n := mdiff_lt HM.out
          have hm256 : m < 4611686018427387904 := by omega
          have ho256 : onesOf m a s1 < 4611686018427387904 := by
            have h1 := onesOf_lt HM.out n8 a s1
            have h2 : 2 ^ z.n ≤ 2 ^ 8 := Nat.pow_le_pow_right (by decide) n8
            omega
          have han := bits_andNot64 m (onesOf m a s1) hm256 ho256
          have HAN := Lib.hid han
          have HE := Lib.hid he
          have HML := Lib.hid hml
          have HDE := Lib.hid hde
          clear hm256 ho256 he hde hml
          have hol := onesOf_lt HM.out n8 a s1
          have hsp : splitB z.l z.n (beat q m s1).beats = splitB z.l z.n s1.beats := run_split (by rw [opAt_get HX.out]; exact (by decide : (11 : Int) ≠ 10))
          have HSP := Lib.hid hsp
          have HEND := Lib.hid hend
          have HDT := Lib.hid hdt
          have HT := Lib.hid ht
          have HOL := Lib.hid hol
          have hlen2 : q + t.flat.length + e.flat.length + 2 < z.l.length := by omega
          clear hq1 hq1' hq2 hq4 hdr hrun hr' hwt hrl HQ hend hdt ht hol hsp hm0 hxx
          rw [hop]
          clear hop
          obtain ⟨c0, c1, c2, c3, c4, c5, c6⟩ := hS5.cells
          have d0 : w5.cell? ⟨wr.heap.size, 0, none⟩ = some (.int .i64 11) := cell_of_heap HB5.out 0
          have d1 : w5.cell? ⟨wr.heap.size, 1, none⟩ = some (.int .i64 a) := cell_of_heap HB5.out 1
          have hbw5 : wr.heap.size < w5.heap.size := lt_of_block HB5.out
          have hR5 := hS5.lst.more (show z.B ≤ w5.heap.size by omega)
          rw [HA.out] at c0 hR5
          go_wp2_with fail
          refine (l4End_c _ z.ca z.l q _ hR5 hl hql2).mono ?_
          rintro e w6 ⟨rfl, hb6⟩
          rw [HEND.out]
          have hX6 := Ext.of_below hb6
          have hS6 := hS5.ext hX6 (by omega)
          have hst6 := hst5.trans (Stp.of_ext hX6 (by omega))
          replace d0 := hX6.cell d0
          replace d1 := hX6.cell d1
          clear c0 c1 c2 c3 c4 c5 c6 hR5 hS5 hst5 hX6 hb6
          go_wp2_with fail
          refine (ones_c hS6 hok5 m HM.out a ha).mono ?_
          rintro e w7 ⟨rfl, rfl⟩
          have hon : onesOf m a (beat q m s1) = onesOf m a s1 := rfl
          rw [hon]
          go_wp2_with fail
          refine (HIH.out t.flat.length htl t (d - 1) (Nat.le_refl _) HT.out w6 z T2 tc2 (beat q m s1) (q + 1) (onesOf m a s1) (q + t.flat.length + 1) _ _ _ (cElse :: (e.flat ++ cEnd :: (r'.flat ++ rest))) (by rw [HSP.out]; exact hS6) hok5 HOL.out HDT.out (by omega) hl (by omega) (by have := hst6.size; omega) (by simp [beat]; omega) HV.out (by omega) rfl rfl).mono ?_
          rintro e1 w8 ⟨rfl, T3, tc3, hS8, hst8⟩
          replace hst6 := hst6.trans hst8
          have hok8 := run_ok t (d - 1) (q + 1) (onesOf m a s1) (beat q m s1) HT.out HOL.out hok5
          have hbt := run_beats t (q + 1) (onesOf m a s1) (beat q m s1)
          have hbl1 : (beat q m s1).beats.length = s1.beats.length + 1 := by simp [beat]
          have hwt8 : (t.run (q + 1) (onesOf m a s1) (beat q m s1)).beats.length + e.wt + r'.wt ≤ 1000000000 := by omega
          clear hbt hbl1 hS6 d0 d1 hst8
          go_wp2_with fail
          generalize t.run (q + 1) (onesOf m a s1) (beat q m s1) = s8 at *
          refine (HIH.out e.flat.length hel e (d - 1) (Nat.le_refl _) HE.out w8 z T3 tc3 s8 (q + t.flat.length + 2) (mdiff m (onesOf m a s1)) (q + t.flat.length + e.flat.length + 2) _ _ _ (cEnd :: (r'.flat ++ rest)) hS8 hok8 HML.out HDE.out (by omega) hl (by omega) (by have := hst6.size; omega) (by omega) HV.out (by omega) rfl (by first | exact HAN.out | omega)).mono ?_
          rintro e1 w9 ⟨rfl, T4, tc4, hS9, hst9⟩
          replace hst6 := hst6.trans hst9
          have hok9 := run_ok e (d - 1) (q + t.flat.length + 2) (mdiff m (onesOf m a s1)) s8 HE.out HML.out hok8
          have hbt := run_beats e (q + t.flat.length + 2) (mdiff m (onesOf m a s1)) s8
          have hwt9 : (e.run (q + t.flat.length + 2) (mdiff m (onesOf m a s1)) s8).beats.length + r'.wt ≤ 1000000000 := by omega
          clear hbt hS8 hst9 han
          go_wp2
          go_roundw
          case rel =>
            have hr := HR.out
            exact ⟨r', q + t.flat.length + e.flat.length + 3, T4, tc4, _, by (congr 1; first | done | omega), Lib.hid ⟨hr.2.1, hr.2.2.1, hr.2.2.2, hr.1⟩, hqt', hS9, hok9, hwt9, hrl', hst6⟩
          case measure => simp [intOf]; omega
        | loop a c t r' =>
          have hq := HQ.out
          obtain ⟨hq1, hq2, hq3, hq4⟩ := hq
          obtain ⟨ha, hc, hd1, ht, hr'⟩ := hq3
          have hq1' : z.l.drop q = cLoop a c :: (t.flat ++ cEnd :: (r'.flat ++ rest)) := by rw [hq1]; simp [Blk.flat]
          obtain ⟨hend, hdt, hdr⟩ := end_iff ht hq1'
          have hxx := (drop_cons hq1').1
          obtain rfl : x = cLoop a c := by have h := HX.out; rw [hxx] at h; injection h with h; exact h.symm
          have hop : opB (cLoop a c) = true := rfl
          have hm0 : ¬ m = 0 := by intro e; subst e; simp at h0
          have hrun : Blk.run (.loop a c t r') q m s1 = r'.run (q + t.flat.length + 2) m (turnsOf (fun m s => t.run (q + 1) m s) a c.toNat m (beat q m s1)) := by
            simp only [Blk.run]; rw [if_neg hm0]
          have hlen : q + t.flat.length + 2 + r'.flat.length = te := by simp [Blk.flat] at hq2; omega
          have HR := Lib.hid (And.intro (hq4.trans hrun) (And.intro hdr (And.intro hlen hr')))
          have hwt1 : s1.beats.length + 1 + c.toNat * t.wt + r'.wt ≤ 1000000000 := by simp only [Blk.wt] at hwt; omega
          have hrl' : r'.flat.length ≤ b.flat.length := by simp [Blk.flat] at hrl; omega
          have htl : t.flat.length < N := by simp [Blk.flat] at hrl; omega
          have hqt' : q + t.flat.length + 2 ≤ te := by omega
          have hol := onesOf_lt HM.out n8 a s1
          have hsp : splitB z.l z.n (beat q m s1).beats = splitB z.l z.n s1.beats := run_split (by rw [opAt_get HX.out]; exact (by decide : (13 : Int) ≠ 10))
          have HSP := Lib.hid hsp
          have HEND := Lib.hid hend
          have HDT := Lib.hid hdt
          have HT := Lib.hid ht
          have HOL := Lib.hid hol
          have hlen2 : q + t.flat.length + 1 < z.l.length := by omega
          clear hq1 hq1' hq2 hq4 hdr hrun hr' hwt hrl HQ hend hdt ht hol hsp hm0 hxx
          rw [hop]
          clear hop
          obtain ⟨c0, c1, c2, c3, c4, c5, c6⟩ := hS5.cells
          have d0 : w5.cell? ⟨wr.heap.size, 0, none⟩ = some (.int .i64 13) := cell_of_heap HB5.out 0
          have d1 : w5.cell? ⟨wr.heap.size, 1, none⟩ = some (.int .i64 a) := cell_of_heap HB5.out 1
          have d2 : w5.cell? ⟨wr.heap.size, 2, none⟩ = some (.int .i64 c) := cell_of_heap HB5.out 2
          have hbw5 : wr.heap.size < w5.heap.size := lt_of_block HB5.out
          have hR5 := hS5.lst.more (show z.B ≤ w5.heap.size by omega)
          rw [HA.out] at c0 hR5
          go_wp2_with fail
          refine (l4End_c _ z.ca z.l q _ hR5 hl hql2).mono ?_
          rintro e w6 ⟨rfl, hb6⟩
          rw [HEND.out]
          have hX6 := Ext.of_below hb6
          have hS6 := hS5.ext hX6 (by omega)
          have hst6 := hst5.trans (Stp.of_ext hX6 (by omega))
          replace d0 := hX6.cell d0
          replace d1 := hX6.cell d1
          have HB6 : Hid (w6.heap[wr.heap.size]? = some (.cells #[.int .i64 13, .int .i64 a, .int .i64 c, .int .i64 0] 76 (0, 0))) := hX6.heap_ HB5.out
          clear c0 c1 c2 c3 c4 c5 c6 hR5 hS5 hst5 hX6 hb6
          go_wp2_with fail
          refine (ones_c hS6 hok5 m HM.out a ha).mono ?_
          rintro e w7 ⟨rfl, rfl⟩
          have hcB : ((c.toNat : Nat) : Int) = c := by omega
          have hbl1 : (beat q m s1).beats.length = s1.beats.length + 1 := by simp [beat]
          have hTO : turnsOf (fun m s => t.run (q + 1) m s) a c.toNat m (beat q m s1) = turnsOf (fun m s => t.run (q + 1) m s) a (c.toNat - 0) m (beat q m s1) := rfl
          have HTO := Lib.hid hTO
          have hwt6 : (beat q m s1).beats.length + (c.toNat - 0) * t.wt + r'.wt ≤ 1000000000 := by rw [Nat.sub_zero]; omega
          have hm0 : m < 2 ^ z.n := HM.out
          have hw6 := hst6.size
          generalize hs0e : beat q m s1 = s0 at *
          have hm0' := Lib.hid hm0
          clear hTO d0 hbl1 hm0
          rw [← hcB] at d2 HB6
          have hcn : c.toNat ≤ 4 := by omega
          generalize c.toNat = cn at *
          clear hcB
          go_wp2
          obtain ⟨wo, rfl⟩ : ∃ wo : World, wo = wr := ⟨_, rfl⟩
          go_loopw [14, 13] (fun tv lv wl => LPRel w z wo.heap.size a (cn : Int) cn t q m s0 r'.wt (splitB z.l z.n s1.beats) tv lv wl) (fun tv _ _ => cn - (intOf tv).toNat)
          case atStart => exact ⟨0, m, T2, tc2, s0, Nat.zero_le _, rfl, rfl, hm0', HTO, by rw [HSP.out]; exact hS6, hok5, hwt6, HB6, hst6⟩
          case round =>
            clear hS6 hok5 hwt6 HB6 hst6 hw6 hs5 hbw5 d1 d2 HTO
            obtain ⟨j, mj, T3, tc3, sj, hj, rfl, rfl, HMJ, HTJ, hSj, hokj, hwtj, HBj, hstj⟩ := hrel
            have d1 : wr.cell? ⟨wo.heap.size, 1, none⟩ = some (.int .i64 a) := cell_of_heap HBj.out 1
            have d2 : wr.cell? ⟨wo.heap.size, 2, none⟩ = some (.int .i64 cn) := cell_of_heap HBj.out 2
            have hlj := onesOf_lt HMJ.out n8 a sj
            have HLJ := Lib.hid hlj
            have hl256 : onesOf mj a sj < 256 := Nat.lt_of_lt_of_le hlj (Nat.pow_le_pow_right (by decide) n8)
            have hszj := hstj.size
            clear hlj
            by_cases hjc : j < cn
            · by_cases hl0 : onesOf mj a sj = 0
              · have HZ := Lib.hid hl0
                rw [hl0]
                have hz : (((0 : Nat) : Int) != 0) = false := by simp
                clear hl0 d1
                go_wp2
                go_roundw
                case rel =>
                  have hr := HR.out
                  have e1 := turns_zero (f := fun m s => t.run (q + 1) m s) (fun s => run_zero t _ s) a (cn - j) mj sj HZ.out
                  exact ⟨r', q + t.flat.length + 2, T3, tc3, sj, by (congr 1; first | done | omega), Lib.hid ⟨hr.2.1, hr.2.2.1, hr.2.2.2, by rw [hr.1, HTJ.out, e1]⟩, hqt', hSj, hokj, by omega, hrl', hstj⟩
                case measure => simp [intOf]; omega
              · have hz : (((onesOf mj a sj : Nat) : Int) != 0) = true := by rw [bne_iff_ne]; omega
                have HTS := Lib.hid (turns_succ (fun m s => t.run (q + 1) m s) a hjc mj sj)
                have hwj2 : sj.beats.length + t.wt + (cn - (j + 1)) * t.wt + r'.wt ≤ 1000000000 := by
                  have : (cn - j) * t.wt = t.wt + (cn - (j + 1)) * t.wt := by
                    rw [show cn - j = (cn - (j + 1)) + 1 by omega, Nat.add_mul]; omega
                  omega
                clear hl0
                go_wp2_with fail
                refine (HIH.out t.flat.length htl t (d - 1) (Nat.le_refl _) HT.out wr z T3 tc3 sj (q + 1) (onesOf mj a sj) (q + t.flat.length + 1) _ _ _ (cEnd :: (r'.flat ++ rest)) hSj hokj HLJ.out HDT.out (by omega) hl (by omega) (by omega) (by omega) HV.out (by omega) rfl rfl).mono ?_
                rintro e1 w8 ⟨rfl, T4, tc4, hS8, hst8⟩
                have HB8 := Lib.hid (hst8.code _ _ HBj.out)
                have hst9 := hstj.trans hst8
                have hok8 := run_ok t (d - 1) (q + 1) (onesOf mj a sj) sj HT.out HLJ.out hokj
                have hbt := run_beats t (q + 1) (onesOf mj a sj) sj
                have hwt8 : (t.run (q + 1) (onesOf mj a sj) sj).beats.length + (cn - (j + 1)) * t.wt + r'.wt ≤ 1000000000 := by omega
                have d1' : w8.cell? ⟨wo.heap.size, 1, none⟩ = some (.int .i64 a) := cell_of_heap HB8.out 1
                have hsp8 : SR w8 z T4 tc4 (splitB z.l z.n (t.run (q + 1) (onesOf mj a sj) sj).beats) (t.run (q + 1) (onesOf mj a sj) sj) := hS8
                clear hbt hS8 hst8 d1 d2 hSj hokj
                generalize t.run (q + 1) (onesOf mj a sj) sj = s8 at *
                go_wp2_with fail
                refine (ones_c hsp8 hok8 (onesOf mj a sj) HLJ.out a ha).mono ?_
                rintro e1 w9 ⟨rfl, rfl⟩
                go_wp2
                go_roundw
                case rel => exact ⟨j + 1, onesOf mj a sj, T4, tc4, s8, by omega, by go_num, rfl, HLJ, Lib.hid (by rw [HTJ.out, HTS.out]), hsp8, hok8, hwt8, HB8, hst9⟩
                case measure => simp [intOf]; omega
            · obtain rfl : j = cn := by omega
              clear d1
              go_wp2
              go_roundw
              case rel =>
                have hr := HR.out
                exact ⟨r', q + t.flat.length + 2, T3, tc3, sj, by (congr 1; first | done | omega), Lib.hid ⟨hr.2.1, hr.2.2.1, hr.2.2.2, by rw [hr.1, HTJ.out, Nat.sub_self]; rfl⟩, hqt', hSj, hokj, by omega, hrl', hstj⟩
              case measure => simp [intOf]; omega
    · go_wp2
      go_end0
      have hq := HQ.out
      have hrn : r.flat.length = 0 := by omega
      have hr0 : r = .nil := by
        cases r with
        | nil => rfl
        | _ => simp [Blk.flat] at hrn
      subst hr0
      have e : b.run p m s = s1 := hq.2.2.2
      exact ⟨rfl, T, tc, by rw [e]; exact hS, hst⟩


/-- A run whose first k lanes have their registers. -/
structure AR (w : World) (B g : Nat) (A : Option Addr) (ca : Nat) (l : List Cd) (n mb mc : Nat) (mem : List Int) (T : Option Addr) (tc : Nat) (R : Option Addr) (rc : Nat) (rk : Nat → Nat) (k : Nat) : Prop where
  blk : w.heap[g]? = some (.cells #[.slice A l.length ca, .int .i64 n, .slice R k rc, .slice (some ⟨mb, 0, none⟩) mem.length mc, .slice T 0 tc, .bool false, .slice none 0 0, .bool false] 102 (0, 0))
  gB : B ≤ g
  out : OR w B 24 1 R k rc (rowVals rk k)
  inn : ∀ j, j < k → OI w B (some ⟨rk j, 0, none⟩) 4 4 [0, 0, 0, 0]
  mem : OI w B (some ⟨mb, 0, none⟩) mem.length mc mem
  trc : OR w B 78 2 T 0 tc []
  inj : ∀ i j, i < k → j < k → rk i = rk j → i = j
  mne : ∀ j, j < k → rk j ≠ mb
  lst : RdC w B A l

section
variable {w w3 : World} {B g : Nat} {A : Option Addr} {ca : Nat} {l : List Cd} {n mb mc : Nat} {mem : List Int} {T : Option Addr} {tc : Nat} {R : Option Addr} {rc : Nat} {rk : Nat → Nat} {k : Nat}
theorem rowVals_succ (rk : Nat → Nat) (k v : Nat) : rowVals (fun j => if j = k then v else rk j) (k + 1) = rowVals rk k ++ [.slice (some ⟨v, 0, none⟩) 4 4] := by
  unfold rowVals
  rw [List.range_succ, List.map_append]
  congr 1
  · apply List.map_congr_left
    intro j hj
    have : j < k := List.mem_range.1 hj
    simp [show j ≠ k by omega]
  · simp
theorem AR.ext {w' : World} (h : AR w B g A ca l n mb mc mem T tc R rc rk k) (hx : Ext w w') (hB : B ≤ w.heap.size) : AR w' B g A ca l n mb mc mem T tc R rc rk k :=
  ⟨hx.heap_ h.blk, h.gB, h.out.ext hx, fun j hj => OR.ext (h.inn j hj) hx, OR.ext h.mem hx, h.trc.ext hx, h.inj, h.mne, h.lst.below ((hx.below).mono hB)⟩
theorem AR.step (h : AR w B g A ca l n mb mc mem T tc R rc rk k) (hB : B ≤ w.heap.size) {gg cap : Nat} {cs : Array Value} (hcs : cs.toList = [.int .i64 0, .int .i64 0, .int .i64 0, .int .i64 0])
    (hg : ((w.alloc (.cells cs 3)).alloc (.cells #[.slice (some ⟨w.heap.size, 0, none⟩) 4 4] 24)).grownBy w3 (Value.ownBlock (.slice R k rc)))
    (ho : OR w3 B 24 1 (some ⟨gg, 0, none⟩) (k + 1) cap (rowVals rk k ++ [.slice (some ⟨w.heap.size, 0, none⟩) 4 4])) :
    AR (w3.setCell ⟨g, 2, none⟩ (.slice (some ⟨gg, 0, none⟩) (k + 1) cap)) B g A ca l n mb mc mem T tc (some ⟨gg, 0, none⟩) cap (fun j => if j = k then w.heap.size else rk j) (k + 1) ∧ Below B w (w3.setCell ⟨g, 2, none⟩ (.slice (some ⟨gg, 0, none⟩) (k + 1) cap)) := by
  have hX1 := Ext.alloc w (.cells cs 3)
  have hX2 := Ext.alloc (w.alloc (.cells cs 3)) (.cells #[.slice (some ⟨w.heap.size, 0, none⟩) 4 4] 24)
  have hrow : OI (w.alloc (.cells cs 3)) B (some ⟨w.heap.size, 0, none⟩) 4 4 [0, 0, 0, 0] := by
    have := OR.lit w B 3 1 4 cs hB (by omega) (by rw [← Array.length_toList, hcs]; rfl)
    rw [hcs] at this
    exact this
  have hrow2 := OR.ext hrow hX2
  have h2 := h.ext (hX1.trans hX2) hB
  have hglt : g < w.heap.size := lt_of_block h.blk
  generalize (w.alloc (.cells cs 3)).alloc (.cells #[.slice (some ⟨w.heap.size, 0, none⟩) 4 4] 24) = w2 at *
  have ownR : ∀ {b : Nat} {cb : Array Value} {t : TypeId}, w2.heap[b]? = some (.cells cb t (0, 0)) → 24 ≠ t → Value.ownBlock (.slice R k rc) ≠ some b := fun hb hne => own_ne h2.out hb hne
  have kp : ∀ j, j < w2.heap.size → Value.ownBlock (.slice R k rc) ≠ some j → w3.heap[j]? = w2.heap[j]? := fun j hj hne => hg.block j hj (fun e => hne e.symm)
  have hblk3 := (kp g (lt_of_block h2.blk) (ownR h2.blk (by decide))).trans h2.blk
  have hlst : Below B w2 w3 := ⟨hg.os, hg.tape, hg.output, hg.size, fun j hj => kp j (by have := hX1.size; have := hX2.size; omega) (fun e => by have := (OR.block h2.out j e).1; omega)⟩
  have hb2 : Below B w (w3.setCell ⟨g, 2, none⟩ (.slice (some ⟨gg, 0, none⟩) (k + 1) cap)) := ((((hX1.trans hX2).below).mono hB).trans hlst).setCell h.gB _
  have og : ∀ {e size n c : Nat} {A : Option Addr} {xs : List Value}, OR w3 B e size A n c xs → e ≠ 102 → OR (w3.setCell ⟨g, 2, none⟩ (.slice (some ⟨gg, 0, none⟩) (k + 1) cap)) B e size A n c xs := fun ho hne => OR.set_other ho (p := ⟨g, 2, none⟩) (own_ne ho hblk3 hne) _
  have okp : ∀ {e size n c : Nat} {A : Option Addr} {xs : List Value} {b : Nat}, A = some ⟨b, 0, none⟩ → OR w2 B e size A n c xs → e ≠ 24 → OR w3 B e size A n c xs := fun {e size n c A xs b} hA ho hne => by
    subst hA
    obtain ⟨cur, hc⟩ := OR.heap_ ho
    exact OR.kept ho hg (.inr fun e' => ownR hc (Ne.symm hne) e'.symm)
  have okT : OR w3 B 78 2 T 0 tc [] := by
    rcases h2.trc.2 with ⟨hv, hn⟩ | ⟨g', cap', cur, hv, hb', hg', hrest⟩
    · exact ⟨h2.trc.1, .inl ⟨hv, hn⟩⟩
    · refine ⟨h2.trc.1, .inr ⟨g', cap', cur, hv, hb', ?_, hrest⟩⟩
      exact (kp g' (lt_of_block hg') (ownR hg' (by decide))).trans hg'
  have lt_rk : ∀ j, j < k → rk j < w.heap.size := fun j hj => (OR.base_le (h.inn j hj)).2
  have lt_mb : mb < w.heap.size := (OR.base_le h.mem).2
  refine ⟨⟨?_, h.gB, og (by rw [rowVals_succ]; exact ho) (by decide), fun j hj => ?_, og (okp rfl h2.mem (by decide)) (by decide), og okT (by decide), fun i j hi hj e => ?_, fun j hj => ?_, h.lst.below hb2⟩, hb2⟩
  · rw [heap_set_same hblk3]
    rfl
  · by_cases e : j = k
    · subst e
      simp only [if_true]
      exact og (okp rfl hrow2 (by decide)) (by decide)
    · simp only [e, if_false]
      exact og (okp rfl (h2.inn j (by omega)) (by decide)) (by decide)
  · by_cases e1 : i = k <;> by_cases e2 : j = k <;> simp only [e1, e2, if_true, if_false] at e
    · omega
    · have := lt_rk j (by omega); omega
    · have := lt_rk i (by omega); omega
    · exact h.inj i j (by omega) (by omega) e
  · by_cases e1 : j = k <;> simp only [e1, if_true, if_false]
    · omega
    · exact h.mne j (by omega)
theorem AR.done {rg : Nat} (h : AR w B g A ca l n mb mc mem T tc (some ⟨rg, 0, none⟩) rc rk n) : SR w ⟨B, g, A, ca, l, n, rg, rc, rk, mb, mc⟩ T tc false (LS.start n mem) := by
  refine ⟨h.blk, h.gB, h.out, fun k hk => ?_, h.mem, h.trc, h.inj, h.mne, h.lst⟩
  have e : (LS.start n mem).regs.getD k [] = [0, 0, 0, 0] := by
    have hk' : k < n := hk
    simp [LS.start, List.getD_eq_getElem?_getD, hk']
  rw [e]
  exact h.inn k hk
end
theorem SOk.start {n : Nat} {mem : List Int} (hn : n ≤ 8) (hm : wordsOk mem) (h1 : 1 ≤ mem.length) (h2 : mem.length ≤ 32) : SOk n (LS.start n mem) :=
  ⟨hn, by simp [LS.start], fun r hr => by
    have : r = [0, 0, 0, 0] := (List.mem_replicate.1 hr).2
    subst this
    exact ⟨rfl, fun v hv => by simp at hv; omega⟩, hm, h1, h2⟩

/-- What l8All leaves. -/
def AllPost (w : World) (l : List Cd) (n : Nat) (s : LS) (e : Ending) (w' : World) : Prop :=
  ∃ (z : SW) (T : Option Addr) (tc : Nat), e = .returned (.pointer (some ⟨z.g, 0, none⟩)) ∧ z.B = w.heap.size ∧ z.l = l ∧ z.n = n ∧ SR w' z T tc (splitB l n s.beats) s ∧ Below w.heap.size w w'

theorem grown_drew2 {w w' : World} {row : Option Nat} (h : w.drew.grownBy w' row) : w.grownBy w' row := ⟨h.os, h.tape, h.output, h.size, h.block⟩

def ALRel (w : World) (g : Nat) (A : Option Addr) (ca : Nat) (l : List Cd) (n mb mc : Nat) (mem : List Int) (T : Option Addr) (tc : Nat) (kv : Value) (wr : World) : Prop :=
  ∃ (k : Nat) (R : Option Addr) (rc : Nat) (rk : Nat → Nat), k ≤ n ∧ kv = .int .i64 k ∧ AR wr w.heap.size g A ca l n mb mc mem T tc R rc rk k ∧ Below w.heap.size w wr

set_option maxRecDepth 100000 in
set_option maxHeartbeats 8000000 in
theorem l8All_c (A Am : Option Addr) (ca cm : Nat) (l : List Cd) (n : Nat) (mem : List Int) (b : Blk) (w : World) (hA : RdC w w.heap.size A l) (hM : RdI w w.heap.size Am mem) (hb : b.ok 3) (hl : l = b.flat) (hv : ∀ x ∈ l, cvOk x = true) (h40 : l.length ≤ 40)
    (hn1 : 1 ≤ n) (hn8 : n ≤ 8) (hm : wordsOk mem) (hm1 : 1 ≤ mem.length) (hm2 : mem.length ≤ 32) :
    Calls Tryz.prog 76 #[.slice A l.length ca, .int .i64 n, .slice Am mem.length cm] w (AllPost w l n (runT b n mem)) := by
  have HL := Lib.hid hl
  have HV := Lib.hid hv
  clear hl hv
  obtain ⟨mb0, mo0, y0, rfl, _, _, _⟩ := hM.at_ (k := 0) (by omega)
  have hM1 := Lib.hid (hM.below ((Below.refl w.heap.size w).alloc (Nat.le_refl _) (.cells #[] 3)))
  have ho0 := Lib.hid (OI.empty_ w w.heap.size (Nat.le_refl _))
  have hmk : ∀ w : World, (Instr.makeSlice 24 (.int .i64 4) (.int .i64 4)).run Tryz.prog w = .ok (.slice (some ⟨w.heap.size, 0, none⟩) 4 4) (w.alloc (.cells (zeroRow (.int .i64 0) 4) 3)) := make_int 4 (by omega)
  go_enter Tryz.func76, Tryz.ntmps76
  go_wp2_with (at_builtin; refine app_rd 24 3 _ 1 8 Tryz.underlying24 infoInt rfl (by decide) (by decide) rfl _ _ rfl w.heap.size _ 0 0 _ ho0.out rfl w.heap.size ⟨mb0, mo0, none⟩ mem.length cm _ rfl hM1.out (ints_one mem) ?hn ?hb ?_)
  case hn => omega
  case hb => simp
  intro A' c' w1 ho1 hg1
  have hb1 := below_gr ((Below.refl w.heap.size w).alloc (Nat.le_refl _) (.cells #[] 3)) (by simp) ho0.out (Nat.le_refl _) hg1
  replace ho1 : OI w1 w.heap.size A' mem.length c' mem := by unfold OI; simpa using ho1
  obtain ⟨mb, rfl, -, hmbl, -⟩ := OR.at_ ho1 (by omega)
  clear hM1 ho0 hg1
  go_wp2_with fail
  have hAR : AR ((w1.alloc (.cells #[] 78)).alloc (.cells #[.slice A l.length ca, .int .i64 n, .slice none 0 0, .slice (some ⟨mb, 0, none⟩) mem.length c', .slice (some ⟨w1.heap.size, 0, none⟩) 0 0, .bool false, .slice none 0 0, .bool false] 102)) w.heap.size (w1.heap.size + 1) A ca l n mb c' mem (some ⟨w1.heap.size, 0, none⟩) 0 none 0 (fun _ => 0) 0 := by
    have hs1 := hb1.size
    have hX := (Ext.alloc w1 (.cells #[] 78)).trans (Ext.alloc (w1.alloc (.cells #[] 78)) (.cells #[.slice A l.length ca, .int .i64 n, .slice none 0 0, .slice (some ⟨mb, 0, none⟩) mem.length c', .slice (some ⟨w1.heap.size, 0, none⟩) 0 0, .bool false, .slice none 0 0, .bool false] 102))
    refine ⟨?_, by omega, OR.nil_ _ _ _ _, fun j hj => by omega, OR.ext ho1 hX, ?_, fun i j hi => by omega, fun j hj => by omega, ?_⟩
    · have := heap_alloc_new (w1.alloc (.cells #[] 78)) (.cells #[.slice A l.length ca, .int .i64 n, .slice none 0 0, .slice (some ⟨mb, 0, none⟩) mem.length c', .slice (some ⟨w1.heap.size, 0, none⟩) 0 0, .bool false, .slice none 0 0, .bool false] 102)
      simp only [World.size_alloc] at this
      exact this
    · exact OR.alloc ((OR.lit w1 w.heap.size 78 2 0 #[] hs1 (by omega) rfl)) _
    · exact (hA.below hb1).below ((hX.below).mono hs1)
  have hbA : Below w.heap.size w ((w1.alloc (.cells #[] 78)).alloc (.cells #[.slice A l.length ca, .int .i64 n, .slice none 0 0, .slice (some ⟨mb, 0, none⟩) mem.length c', .slice (some ⟨w1.heap.size, 0, none⟩) 0 0, .bool false, .slice none 0 0, .bool false] 102)) := (hb1.alloc hb1.size _).alloc (by have := hb1.size; simp; omega) _
  generalize (w1.alloc (.cells #[] 78)).alloc (.cells #[.slice A l.length ca, .int .i64 n, .slice none 0 0, .slice (some ⟨mb, 0, none⟩) mem.length c', .slice (some ⟨w1.heap.size, 0, none⟩) 0 0, .bool false, .slice none 0 0, .bool false] 102) = w2 at *
  generalize w1.heap.size + 1 = g at *
  generalize (some ⟨w1.heap.size, 0, none⟩ : Option Addr) = T at *
  clear ho1 hb1 hmbl
  go_loopw [8] (fun kv wr => ALRel w g A ca l n mb c' mem T 0 kv wr) (fun kv _ => n - (intOf kv).toNat)
  case atStart => exact ⟨0, none, 0, _, Nat.zero_le _, rfl, hAR, hbA⟩
  case round =>
    clear hAR hbA
    obtain ⟨k, R, rc, rk, hk, rfl, hR, hb2⟩ := hrel
    have hBr := hb2.size
    have hblk := hR.blk
    have c2 : wr.cell? ⟨g, 2, none⟩ = some (.slice R k rc) := cell_of_heap hblk 2
    have HR := Lib.hid hR
    by_cases hlt : k < n
    · obtain ⟨i0, hi0, hz0, hz1, hz2⟩ := info_parts infoRows
      have hOR := Lib.hid (OR.drew (OR.alloc (OR.alloc hR.out (.cells (zeroRow (.int .i64 0) 4) 3)) (.cells #[.slice (some ⟨wr.heap.size, 0, none⟩) 4 4] 24)))
      have hgl : g < wr.heap.size := lt_of_block hblk
      have hne : Value.ownBlock (.slice R k rc) ≠ some g := own_ne hR.out hblk (by decide)
      have hnew := heap_alloc_new (wr.alloc (.cells (zeroRow (.int .i64 0) 4) 3)) (.cells #[.slice (some ⟨wr.heap.size, 0, none⟩) 4 4] 24)
      simp only [World.size_alloc] at hnew
      have f2 := free_of_heap hblk 2
      have h1 := (Below.heap_alloc wr (.cells (zeroRow (.int .i64 0) 4) 3) g hgl).trans hblk
      have h2 := (Below.heap_alloc (wr.alloc (.cells (zeroRow (.int .i64 0) 4) 3)) (.cells #[.slice (some ⟨wr.heap.size, 0, none⟩) 4 4] 24) g (by simp; omega)).trans h1
      clear hR
      go_wp2_with fail
      go_region_law ((refine step_append_lies _ (by rfl) _ _ _ (by rfl) w.heap.size 24 i0 _ 1 24 Tryz.underlying25 hi0 hz0 hz1 hz2 rfl (by omega) (.slice R k rc) k _ (by rfl) hOR.out ⟨wr.heap.size + 1, 0, none⟩ 1 1 [.slice (some ⟨wr.heap.size, 0, none⟩) 4 4] (by rfl) (by rfl) (World.news_of_block (cs := #[.slice (some ⟨wr.heap.size, 0, none⟩) 4 4]) (t := 24) (fr := (0, 0)) hnew) (by simp [Value.oneCell']) (by omega) (by unfold maxLen; omega) (by omega) (by simp; omega) (wr.heap.size + 2) (by simp) ?_; intro gg cap w3 ho3 hgrow hat hlt3; have f3 := free_of_heap ((hgrow.block g (by simp; omega) (fun e => hne e.symm)).trans h2) 2; have c3 := cell_of_heap ((hgrow.block g (by simp; omega) (fun e => hne e.symm)).trans h2) 2))
      all_goals
        have hst := HR.out.step hBr (cs := zeroRow (.int .i64 0) 4) ((toList_madeCells_one _ _).trans rfl) (grown_drew2 hgrow) ho3
        clear c2 hblk h1 h2 f2 hnew hOR ho3 hgrow c3 f3 hat
        obtain ⟨hR', hbS⟩ := hst
        have hb3 := hb2.trans hbS
        go_wp2
        refine ⟨⟨k + 1, _, cap, _, by omega, by go_num, hR', hb3⟩, ?_⟩
        simp [intOf]; omega
    · obtain rfl : k = n := by omega
      obtain ⟨rg, rfl, -, -, -⟩ := OR.at_ hR.out (by omega)
      have hSR := hR.done
      have hmm : 2 ^ k - 1 < 2 ^ k := by have : 0 < 2 ^ k := Nat.pow_pos (by decide); omega
      have hwt := wt_le b 3 hb
      rw [← HL.out] at hwt
      have hall : maskAllI (k : Int) = ((2 ^ k - 1 : Nat) : Int) := by
        have : k = 1 ∨ k = 2 ∨ k = 3 ∨ k = 4 ∨ k = 5 ∨ k = 6 ∨ k = 7 ∨ k = 8 := by omega
        rcases this with rfl | rfl | rfl | rfl | rfl | rfl | rfl | rfl <;> decide
      have HALL := Lib.hid hall
      clear hall c2 hblk
      go_wp2_with fail
      refine (sMaskAll_c k wr).mono ?_
      rintro e w5 ⟨rfl, rfl⟩
      go_wp2_with fail
      refine (block_c b.flat.length b 3 (Nat.le_refl _) hb wr ⟨w.heap.size, g, A, ca, l, k, rg, rc, rk, mb, c'⟩ T 0 (LS.start k mem) 0 (2 ^ k - 1) l.length 0 l.length _ [] hSR (SOk.start hn8 hm hm1 hm2) hmm (by simp [HL.out]) (by simp [HL.out]) (show l.length ≤ 1000000000 by omega) (Nat.le_refl _) hBr (by simp [LS.start]; omega) HV.out rfl rfl HALL.out).mono ?_
      rintro e w6 ⟨rfl, T', tc', hS', hst'⟩
      go_wp2
      go_ret
      exact ⟨⟨w.heap.size, g, A, ca, l, k, rg, rc, rk, mb, c'⟩, T', tc', rfl, rfl, rfl, rfl, hS', hb2.trans hst'.bel⟩


set_option maxRecDepth 100000 in
set_option maxHeartbeats 4000000 in
theorem sMemoryValid_c (A : Option Addr) (c : Nat) (m : List Int) (w : World) (hA : RdI w w.heap.size A m) (hl : m.length ≤ 1000000000) :
    Calls Tryz.prog 37 #[.slice A m.length c] w fun e w' => e = .returned (.bool (memOk m)) ∧ w = w' := by
  go_enter Tryz.func37, Tryz.ntmps37
  go_wp2
  go_loopw [3] (fun i wr => ∃ k : Nat, k ≤ m.length ∧ i = .int .i64 k ∧ Hid (∀ j x, j < k → m[j]? = some x → inR x 0 255 = true) ∧ w = wr) (fun i _ => m.length - (intOf i).toNat)
  case atStart => exact ⟨0, Nat.zero_le _, rfl, fun j x hj => by omega, rfl⟩
  case round =>
    obtain ⟨k, hk, rfl, HP, rfl⟩ := hrel
    by_cases hlt : k < m.length
    · obtain ⟨b, off, x, rfl, hbB, hx, c0⟩ := hA.at_ hlt
      have HX := Lib.hid hx
      clear hx
      go_wp2_with fail
      refine (l2Word_c x w).mono ?_
      rintro e w1 ⟨rfl, rfl⟩
      cases hv : inR x 0 255 with
      | false =>
        have hm : memOk m = false := by
          have : m.all (fun v => inR v 0 255) = false := List.all_eq_false.2 ⟨x, List.mem_of_getElem? HX.out, by simp [hv]⟩
          simp [memOk, this]
        go_wp2
        go_ret
        exact ⟨retb hm.symm, rfl⟩
      | true =>
        have HV := Lib.hid hv
        clear hv
        go_wp2
        go_roundw
        case rel =>
          refine ⟨k + 1, by omega, by go_num, fun j y hj hy => ?_, trivial⟩
          by_cases e : j = k
          · subst e
            rw [HX.out] at hy
            injection hy with hy
            subst hy
            exact HV.out
          · exact HP.out j y (by omega) hy
        case measure => simp [intOf]; omega
    · obtain rfl : k = m.length := by omega
      have hm : memOk m = inR m.length 1 32 := by
        have : m.all (fun v => inR v 0 255) = true := List.all_eq_true.2 fun x hx => by
          obtain ⟨j, hj, rfl⟩ := List.mem_iff_getElem.1 hx
          exact HP.out j _ hj (List.getElem?_eq_getElem hj)
        simp [memOk, this]
      go_wp2_with fail
      refine (l1In_c m.length 1 32 w).mono ?_
      rintro e w1 ⟨rfl, rfl⟩
      go_wp2
      go_ret
      exact ⟨retb hm.symm, rfl⟩

set_option maxRecDepth 100000 in
set_option maxHeartbeats 4000000 in
theorem sl8Ok_c (A Am : Option Addr) (c cm : Nat) (l : List Cd) (n : Int) (m : List Int) (w : World) (hA : RdC w w.heap.size A l) (hM : RdI w w.heap.size Am m) (hl : l.length ≤ 1000000000) (hml : m.length ≤ 1000000000) :
    Calls Tryz.prog 30 #[.slice A l.length c, .int .i64 n, .slice Am m.length cm] w fun e w' => e = .returned (.bool (lockOk l n m)) ∧ Below w.heap.size w w' := by
  go_enter Tryz.func30, Tryz.ntmps30
  go_wp2_with fail
  refine (sProgramValid_c A c l w hA hl).mono ?_
  rintro e w1 ⟨rfl, hb1⟩
  cases hp : pv l with
  | false =>
    go_wp2
    go_ret
    exact ⟨retb (by simp [lockOk, hp]), hb1⟩
  | true =>
    go_wp2_with fail
    refine (l1In_c n 1 8 w1).mono ?_
    rintro e w2 ⟨rfl, rfl⟩
    cases hin : inR n 1 8 with
    | false =>
      go_wp2
      go_ret
      exact ⟨retb (by simp [lockOk, hin]), hb1⟩
    | true =>
      go_wp2_with fail
      refine (sMemoryValid_c Am cm m w1 ((hM.below hb1).more hb1.size) hml).mono ?_
      rintro e w2 ⟨rfl, rfl⟩
      go_wp2
      go_ret
      exact ⟨retb (by simp [lockOk, hp, hin]), hb1⟩

end Go.Proofs.YtelbfeidpcojmaaGreat
