/- Part 14 of what the claim needs. -/
import Derived.Test.YtelbfeidpcojmaaGreatSa4
import Derived.Test.YtelbfeidpcojmaaGreatSa8
import Derived.Test.YtelbfeidpcojmaaGreatSa9
import Derived.Test.YtelbfeidpcojmaaGreatSa13
import Derived.Deep.RegionHeld3
import Derived.Deep.RegionLaw
import Derived.Deep.AppendLies
import Derived.StillTailTactics
namespace Go.Proofs.YtelbfeidpcojmaaGreat
open Go.RowKit
set_option linter.unusedVariables false
set_option linter.unusedSimpArgs false

/-- What a call of run leaves. -/
def RunPost (w : World) (z : IW) (b : Blk) (p m : Nat) (s : LS) (e : Ending) (w' : World) : Prop :=
  e = .returned (.tuple #[]) ∧ ∃ T tc U uc, IR w' z T tc U uc (b.run p m s) ∧ StI z.B w w'

def RNRel (w : World) (z : IW) (b : Blk) (d p m te : Nat) (s : LS) (rest : List Cd) (kv : Value) (wr : World) : Prop :=
  ∃ (r : Blk) (q : Nat) (T : Option Addr) (tc : Nat) (U : Option Addr) (uc : Nat) (s1 : LS), kv = .int .i64 q ∧ Hid (z.l.drop q = r.flat ++ rest ∧ q + r.flat.length = te ∧ r.ok d ∧ b.run p m s = r.run q m s1) ∧ q ≤ te ∧
    IR wr z T tc U uc s1 ∧ SOk z.n s1 ∧ Hid (Bd s1) ∧ s1.beats.length + r.wt ≤ 1000000000 ∧ r.flat.length ≤ b.flat.length ∧ StI z.B w wr

def RLRel (w : World) (z : IW) (cb : Nat) (a c : Int) (cn : Nat) (t : Blk) (q m : Nat) (s0 : LS) (rw : Nat) (tv lv : Value) (wl : World) : Prop :=
  ∃ (j mj : Nat) (T : Option Addr) (tc : Nat) (U : Option Addr) (uc : Nat) (sj : LS), j ≤ cn ∧ tv = .int .i64 j ∧ lv = .int .i64 mj ∧ Hid (mj < 2 ^ z.n) ∧
    Hid (turnsOf (fun m s => t.run (q + 1) m s) a cn m s0 = turnsOf (fun m s => t.run (q + 1) m s) a (cn - j) mj sj) ∧
    IR wl z T tc U uc sj ∧ SOk z.n sj ∧ Hid (Bd sj) ∧ sj.beats.length + (cn - j) * t.wt + rw ≤ 1000000000 ∧ Hid (wl.heap[cb]? = some (.cells #[.int .i64 13, .int .i64 a, .int .i64 c, .int .i64 0] 76 (0, 0))) ∧ StI z.B w wl

theorem ownRow_plain {l : List Cd} {ga : Nat → Nat} {q : Nat} {x : Cd} (hx : l[q]? = some x) (h10 : x.op ≤ 10) : (ownRow l ga l.length)[q]? = some (.pointer none) := by
  have hq := (List.getElem?_eq_some_iff.1 hx).1
  have e1 : opB x = false := by simp [opB]; omega
  have e2 : (x.op == 12) = false := beq_eq_false_iff_ne.2 (by omega)
  have e3 : (x.op == 14) = false := beq_eq_false_iff_ne.2 (by omega)
  rw [ownRow_get _ _ _ _ hq, if_pos hq]
  simp [ownV, ownP, cdAt_get hx, e1, e2, e3]
theorem ownRow_open {l : List Cd} {ga : Nat → Nat} {q : Nat} {x : Cd} (hx : l[q]? = some x) (ho : opB x = true) : (ownRow l ga l.length)[q]? = some (.pointer (some ⟨ga q, 0, none⟩)) := by
  have hq := (List.getElem?_eq_some_iff.1 hx).1
  rw [ownRow_get _ _ _ _ hq, if_pos hq]
  simp [ownV, ownP, cdAt_get hx, ho, ptrV]

set_option maxRecDepth 100000 in
set_option maxHeartbeats 16000000 in
theorem run_c (N : Nat) : ∀ (b : Blk) (d : Nat), b.flat.length ≤ N → b.ok d → ∀ (w : World) (z : IW) (T : Option Addr) (tc : Nat) (U : Option Addr) (uc : Nat) (s : LS) (p m te : Nat) (fi ti mi : Int) (rest : List Cd),
    IR w z T tc U uc s → SOk z.n s → Bd s → m < 2 ^ z.n → z.l.drop p = b.flat ++ rest → p + b.flat.length = te → z.l.length ≤ 1000 → te ≤ z.l.length → z.B ≤ w.heap.size → s.beats.length + b.wt ≤ 1000000000 → (∀ x ∈ z.l, cvOk x = true) →
    fi = p → ti = te → mi = m →
    Calls Tryz.prog 103 #[.pointer (some ⟨z.g, 0, none⟩), .int .i64 fi, .int .i64 ti, .int .i64 mi] w (RunPost w z b p m s) := by
  induction N using Nat.strongRecOn with
  | ind N IH =>
  intro b d hbN hbd w z T tc U uc s p m te fi ti mi rest hS hok hbd0 hm hdrop hte hl hle hB hwt hval hfi hti hmi
  subst hfi hti hmi
  have n8 := hok.n8
  have HIH := Lib.hid IH
  have HV := Lib.hid hval
  have m256 : m < 256 := Nat.lt_of_lt_of_le hm (Nat.pow_le_pow_right (by decide) n8)
  have HM := Lib.hid hm
  have HTE := Lib.hid hte
  have hpt : p ≤ te := by omega
  have HD := Lib.hid hdrop
  clear IH hval hm hte hdrop
  go_enter Tryz.func103, Tryz.ntmps103
  go_wp2
  go_loopw [8] (fun kv wr => RNRel w z b d p m te s rest kv wr) (fun kv _ => te - (intOf kv).toNat)
  case atStart => exact ⟨b, p, T, tc, U, uc, s, rfl, Lib.hid ⟨HD.out, HTE.out, hbd, rfl⟩, hpt, hS, hok, Lib.hid hbd0, hwt, Nat.le_refl _, StI.refl _ _⟩
  case round =>
    clear hS hok hwt hbd0
    obtain ⟨r, q, T, tc, U, uc, s1, rfl, HQ, hqt, hS, hok, HBD, hwt, hrl, hst⟩ := hrel
    have hsz := hst.size
    by_cases hlt : q < te
    · by_cases hm0 : m = 0
      · subst hm0
        have h0 : (((0 : Nat) : Int) != 0) = false := by simp
        go_wp2
        go_end0
        have hq := HQ.out
        have e : b.run p 0 s = s1 := by rw [hq.2.2.2, run_zero]
        exact ⟨rfl, T, tc, U, uc, by rw [e]; exact hS, hst⟩
      · have h0 : ((m : Int) != 0) = true := by rw [bne_iff_ne]; omega
        have hBr : z.B ≤ wr.heap.size := by omega
        have hql2 : q < z.l.length := by omega
        have hx := cdAt_get' hql2
        generalize cdAt z.l q = x at hx
        have HX := Lib.hid hx
        have hbl : s1.beats.length ≤ 1000000000 := by omega
        clear hx hm0
        go_wp2_with fail
        refine (beat_c hS q m (by omega) (by omega) hbl hBr).mono ?_
        rintro e w1 ⟨rfl, T1, tc1, hS1, hst1⟩
        replace hst1 := hst.trans hst1
        have hs1 := hst1.size
        have hok1 := hok.beat q m
        have HBD1 := Lib.hid (HBD.out.beat q m)
        obtain ⟨lb, off, y, hA, hbB, hy, l0, l1, l2, l3⟩ := hS1.mach.lst.at_ hql2
        rw [HX.out] at hy
        injection hy with hy
        subst hy
        obtain ⟨c0, c1, c2, c3, c4, c5, c6⟩ := hS1.cells
        obtain ⟨e0, e1⟩ := hS1.mach.cells
        rw [hA] at e0
        have HA := Lib.hid hA
        have HS1 := Lib.hid hS1
        have hqlI : (q : Int) < (z.l.length : Int) := by omega
        have n1 : z.g < w1.heap.size := hS1.glt
        have n2 : z.mg < w1.heap.size := hS1.mach.glt
        have n3 : lb < w1.heap.size := by omega
        have n4 : z.ob < w1.heap.size := (OR.base_le hS1.mach.own).2
        have HOW := Lib.hid hS1.mach.own
        have hX1 := Ext.alloc w1 (.cells #[.int .i64 x.op, .int .i64 x.a, .int .i64 x.b, .int .i64 x.c] 76)
        have HX1 := Lib.hid hX1
        have HBX := Lib.hid (heap_alloc_new w1 (.cells #[.int .i64 x.op, .int .i64 x.a, .int .i64 x.b, .int .i64 x.c] 76))
        clear hA hS hst hX1 hS1 c1 c2 c3 c4 c5 c6
        cases r with
        | nil =>
          have hq := HQ.out
          simp [Blk.flat] at hq
          omega
        | op x' r' =>
          have hq := HQ.out
          obtain ⟨hq1, hq2, hq3, hq4⟩ := hq
          obtain ⟨hvx, h1x, h10x, hr'⟩ := hq3
          have hdr := drop_cons hq1
          obtain rfl : x = x' := by have h := HX.out; rw [hdr.1] at h; injection h with h; exact h.symm
          have e2 := (OR.at0 HOW.out).1 q _ (ownRow_plain HX.out h10x)
          go_wp2_with fail
          go_region_held3 (fun w' => w'.cell? ⟨z.g, 0, none⟩ = some (.pointer (some ⟨z.mg, 0, none⟩)) ∧ w'.cell? ⟨z.mg, 0, none⟩ = some (.slice (some ⟨lb, off, none⟩) z.l.length z.ca) ∧ w'.cell? ⟨lb, off + q * 4, none⟩ = some (.int .i64 x.op) ∧ w'.cell? ⟨lb, off + q * 4 + 1, none⟩ = some (.int .i64 x.a) ∧ w'.cell? ⟨lb, off + q * 4 + 2, none⟩ = some (.int .i64 x.b) ∧ w'.cell? ⟨lb, off + q * 4 + 3, none⟩ = some (.int .i64 x.c) ∧
              w'.cell? ⟨z.mg, 1, none⟩ = some (.slice (some ⟨z.ob, 0, none⟩) z.l.length z.l.length) ∧ w'.cell? ⟨z.ob, q, none⟩ = some (.pointer none)) (first | go_keep | fail) (fail)
          rename_i hh
          clear hh
          have hX5 := HX1.out.trans (Ext.drew (w1.alloc (.cells #[.int .i64 x.op, .int .i64 x.a, .int .i64 x.b, .int .i64 x.c] 76)))
          have HB5 := Lib.hid ((Ext.drew (w1.alloc (.cells #[.int .i64 x.op, .int .i64 x.a, .int .i64 x.b, .int .i64 x.c] 76))).heap_ HBX.out)
          have hS5 := HS1.out.ext hX5 (show z.B ≤ w1.heap.size by omega)
          have hst5 := hst1.trans (StI.of_ext hX5 (by omega))
          generalize (w1.alloc (.cells #[.int .i64 x.op, .int .i64 x.a, .int .i64 x.b, .int .i64 x.c] 76)).drew = w5 at *
          have hs5 := hst5.size
          have d0 := cell_of_heap HB5.out 0
          have d1 := cell_of_heap HB5.out 1
          have d2 := cell_of_heap HB5.out 2
          clear hX5 hst1 c0 e0 e1 e2 l0 l1 l2 l3 n1 n2 n3 n4 hs1
          have e11 : (x.op == 11) = false := beq_eq_false_iff_ne.2 (by omega)
          have e13 : (x.op == 13) = false := beq_eq_false_iff_ne.2 (by omega)
          have hrun : Blk.run (.op x r') q m s1 = r'.run (q + 1) m (execM x m (beat q m s1)) := by
            simp only [Blk.run]; rw [if_neg (by intro e; subst e; simp at h0)]
          have HR := Lib.hid (And.intro (hq4.trans hrun) (And.intro hdr.2.1 (And.intro (show q + 1 + r'.flat.length = te by simp [Blk.flat] at hq2; omega) hr')))
          have hwt' : s1.beats.length + 1 + r'.wt ≤ 1000000000 := by simp only [Blk.wt] at hwt; omega
          have hrl' : r'.flat.length ≤ b.flat.length := by simp [Blk.flat] at hrl; omega
          have hqt' : q + 1 ≤ te := by omega
          have hbb := HBD1.out
          have hbl1 : (beat q m s1).beats.length = s1.beats.length + 1 := by simp [beat]
          have HBB := Lib.hid (show (beat q m s1).accs.length ≤ 100000000000 ∧ (beat q m s1).phase ≤ 1000000000 by obtain ⟨b1, b2⟩ := hbb; omega)
          clear hq1 hq2 hq4 hdr hrun hr' hwt hrl HQ hbb hbl1
          go_wp2_with fail
          refine (execute_c hS5 hok1 HX.out hvx h10x m HM.out HBB.out.1 HBB.out.2 (by omega) (by omega)).mono ?_
          rintro e w6 ⟨rfl, U6, uc6, hS6, hst6⟩
          have hst7 := hst5.trans hst6
          have hok6 := hok1.execM hvx HM.out
          have HBD6 := Lib.hid (HBD.out.op x q m)
          have hb6 : (execM x m (beat q m s1)).beats.length = s1.beats.length + 1 := by rw [execM_beats]; simp [beat]
          clear hS5 hst5 hst6 d0 d1 d2
          go_wp2
          go_roundw
          case rel =>
            have hr := HR.out
            exact ⟨r', q + 1, T1, tc1, U6, uc6, _, by go_num, Lib.hid ⟨hr.2.1, hr.2.2.1, hr.2.2.2, hr.1⟩, hqt', hS6, hok6, HBD6, by omega, hrl', hst7⟩
          case measure => simp [intOf]; omega
        | iff a t r' =>
          have hq := HQ.out
          obtain ⟨hq1, hq2, hq3, hq4⟩ := hq
          obtain ⟨ha, hd1, ht, hr'⟩ := hq3
          have hq1' : z.l.drop q = cIf a :: (t.flat ++ cEnd :: (r'.flat ++ rest)) := by rw [hq1]; simp [Blk.flat]
          obtain ⟨hend, hdt, hdr⟩ := end_iff ht hq1'
          have hxx := (drop_cons hq1').1
          have hxe : x = cIf a := by have h := HX.out; rw [hxx] at h; injection h with h; exact h.symm
          have h11 : x.op = 11 := by rw [hxe]; rfl
          obtain rfl : a = x.a := by rw [hxe]; rfl
          have hm0 : ¬ m = 0 := by intro e; subst e; simp at h0
          have hrun : Blk.run (.iff x.a t r') q m s1 = r'.run (q + t.flat.length + 2) m (t.run (q + 1) (onesOf m x.a s1) (beat q m s1)) := by
            simp only [Blk.run]; rw [if_neg hm0]
          have hlen : q + t.flat.length + 2 + r'.flat.length = te := by simp [Blk.flat] at hq2; omega
          have HR := Lib.hid (And.intro (hq4.trans hrun) (And.intro hdr (And.intro hlen hr')))
          have hwt1 : s1.beats.length + 1 + t.wt + r'.wt ≤ 1000000000 := by simp only [Blk.wt] at hwt; omega
          have hrl' : r'.flat.length ≤ b.flat.length := by simp [Blk.flat] at hrl; omega
          have htl : t.flat.length < N := by simp [Blk.flat] at hrl; omega
          have hqt' : q + t.flat.length + 2 ≤ te := by omega
          have hol := onesOf_lt HM.out n8 x.a s1
          have HEND := Lib.hid hend
          have HDT := Lib.hid hdt
          have HT := Lib.hid ht
          have HOL := Lib.hid hol
          have HH11 := Lib.hid h11
          have hlen2 : q + t.flat.length + 1 < z.l.length := by omega
          clear hq1 hq1' hq2 hq4 hdr hrun hr' hwt hrl HQ hend hdt ht hol hm0 hxx hxe
          have hop : opB x = true := by simp [opB, h11]
          have e2 := (OR.at0 HOW.out).1 q _ (ownRow_open HX.out hop)
          have hcd := cdAt_get HX.out
          have HOP := Lib.hid (show opB (cdAt z.l q) = true by rw [hcd]; exact hop)
          clear hop hcd h11
          go_wp2_with fail
          go_region_held3 (fun w' => w'.cell? ⟨z.g, 0, none⟩ = some (.pointer (some ⟨z.mg, 0, none⟩)) ∧ w'.cell? ⟨z.mg, 0, none⟩ = some (.slice (some ⟨lb, off, none⟩) z.l.length z.ca) ∧ w'.cell? ⟨lb, off + q * 4, none⟩ = some (.int .i64 x.op) ∧ w'.cell? ⟨lb, off + q * 4 + 1, none⟩ = some (.int .i64 x.a) ∧ w'.cell? ⟨lb, off + q * 4 + 2, none⟩ = some (.int .i64 x.b) ∧ w'.cell? ⟨lb, off + q * 4 + 3, none⟩ = some (.int .i64 x.c) ∧
              w'.cell? ⟨z.mg, 1, none⟩ = some (.slice (some ⟨z.ob, 0, none⟩) z.l.length z.l.length) ∧ w'.cell? ⟨z.ob, q, none⟩ = some (.pointer (some ⟨z.ga q, 0, none⟩))) (first | go_keep | fail) (fail)
          rename_i hh
          clear hh
          have hX5 := HX1.out.trans (Ext.drew (w1.alloc (.cells #[.int .i64 x.op, .int .i64 x.a, .int .i64 x.b, .int .i64 x.c] 76)))
          have HB5 := Lib.hid ((Ext.drew (w1.alloc (.cells #[.int .i64 x.op, .int .i64 x.a, .int .i64 x.b, .int .i64 x.c] 76))).heap_ HBX.out)
          have hS5 := HS1.out.ext hX5 (show z.B ≤ w1.heap.size by omega)
          have hst5 := hst1.trans (StI.of_ext hX5 (by omega))
          generalize (w1.alloc (.cells #[.int .i64 x.op, .int .i64 x.a, .int .i64 x.b, .int .i64 x.c] 76)).drew = w5 at *
          have hs5 := hst5.size
          have d0 := cell_of_heap HB5.out 0
          have d1 := cell_of_heap HB5.out 1
          have d2 := cell_of_heap HB5.out 2
          clear hX5 hst1 c0 e0 e1 e2 l0 l1 l2 l3 n1 n2 n3 n4 hs1
          have e11 : (x.op == 11) = true := beq_iff_eq.2 HH11.out
          go_wp2_with fail
          refine (active_c hS5 hok1 m HM.out x.a ha).mono ?_
          rintro e w6 ⟨rfl, hb6⟩
          have hon : onesOf m x.a (beat q m s1) = onesOf m x.a s1 := rfl
          rw [hon]
          have hX6 := Ext.of_below hb6
          have hS6 := hS5.ext hX6 (by omega)
          have hst6 := hst5.trans (StI.of_ext hX6 (by omega))
          have hs6 := hst6.size
          obtain ⟨-, -, g1, g2⟩ := hS6.mach.own_open hql2 HOP.out
          rw [HEND.out] at g1 g2
          clear hX6 hb6 hS5 hst5 d0 d1 d2
          go_wp2_with fail
          refine (HIH.out t.flat.length htl t (d - 1) (Nat.le_refl _) HT.out w6 z T1 tc1 U uc (beat q m s1) (q + 1) (onesOf m x.a s1) (q + t.flat.length + 1) _ _ _ (cEnd :: (r'.flat ++ rest)) hS6 hok1 HBD1.out HOL.out HDT.out (by omega) hl (by omega) (by omega) (by simp [beat]; omega) HV.out (by omega) rfl rfl).mono ?_
          rintro e w8 ⟨rfl, T3, tc3, U3, uc3, hS8, hst8⟩
          replace hst6 := hst6.trans hst8
          have hok8 := run_ok t (d - 1) (q + 1) (onesOf m x.a s1) (beat q m s1) HT.out HOL.out hok1
          have HBD8 := Lib.hid (run_bd t (q + 1) (onesOf m x.a s1) (beat q m s1) HBD1.out)
          have hbt := run_beats t (q + 1) (onesOf m x.a s1) (beat q m s1)
          have hbl1 : (beat q m s1).beats.length = s1.beats.length + 1 := by simp [beat]
          have hwt8 : (t.run (q + 1) (onesOf m x.a s1) (beat q m s1)).beats.length + r'.wt ≤ 1000000000 := by omega
          obtain ⟨-, -, -, g2⟩ := hS8.mach.own_open hql2 HOP.out
          rw [HEND.out] at g2
          clear hbt hbl1 hS6 hst8 g1
          go_wp2
          go_roundw
          case rel =>
            have hr := HR.out
            exact ⟨r', q + t.flat.length + 2, T3, tc3, U3, uc3, _, by (congr 1; first | done | omega), Lib.hid ⟨hr.2.1, hr.2.2.1, hr.2.2.2, hr.1⟩, hqt', hS8, hok8, HBD8, hwt8, hrl', hst6⟩
          case measure => simp [intOf]; omega
        | ife a t e r' =>
          have hq := HQ.out
          obtain ⟨hq1, hq2, hq3, hq4⟩ := hq
          obtain ⟨ha, hd1, ht, he, hr'⟩ := hq3
          have hq1' : z.l.drop q = cIf a :: (t.flat ++ cElse :: (e.flat ++ cEnd :: (r'.flat ++ rest))) := by rw [hq1]; simp [Blk.flat]
          obtain ⟨hend, hdt, hde, hdr⟩ := end_ife ht he hq1'
          have hxx := (drop_cons hq1').1
          have hxe : x = cIf a := by have h := HX.out; rw [hxx] at h; injection h with h; exact h.symm
          have h11 : x.op = 11 := by rw [hxe]; rfl
          obtain rfl : a = x.a := by rw [hxe]; rfl
          have hm0 : ¬ m = 0 := by intro e; subst e; simp at h0
          have hrun : Blk.run (.ife x.a t e r') q m s1 = r'.run (q + t.flat.length + e.flat.length + 3) m (e.run (q + t.flat.length + 2) (mdiff m (onesOf m x.a s1)) (t.run (q + 1) (onesOf m x.a s1) (beat q m s1))) := by
            simp only [Blk.run]; rw [if_neg hm0]
          have hlen : q + t.flat.length + e.flat.length + 3 + r'.flat.length = te := by simp [Blk.flat] at hq2; omega
          have HR := Lib.hid (And.intro (hq4.trans hrun) (And.intro hdr (And.intro hlen hr')))
          have hwt1 : s1.beats.length + 1 + t.wt + e.wt + r'.wt ≤ 1000000000 := by simp only [Blk.wt] at hwt; omega
          have hrl' : r'.flat.length ≤ b.flat.length := by simp [Blk.flat] at hrl; omega
          have htl : t.flat.length < N := by simp [Blk.flat] at hrl; omega
          have hel : e.flat.length < N := by simp [Blk.flat] at hrl; omega
          have hqt' : q + t.flat.length + e.flat.length + 3 ≤ te := by omega
          have hml : mdiff m (onesOf m x.a s1) < 2 ^ z.n := mdiff_lt HM.out
          have hm256 : m < 4611686018427387904 := by omega
          have ho256 : onesOf m x.a s1 < 4611686018427387904 := by
            have h1 := onesOf_lt HM.out n8 x.a s1
            have h2 : 2 ^ z.n ≤ 2 ^ 8 := Nat.pow_le_pow_right (by decide) n8
            omega
          have han := bits_andNot64 m (onesOf m x.a s1) hm256 ho256
          have HAN := Lib.hid han
          have HE := Lib.hid he
          have HML := Lib.hid hml
          have HDE := Lib.hid hde
          have hol := onesOf_lt HM.out n8 x.a s1
          have HEND := Lib.hid hend
          have HDT := Lib.hid hdt
          have HT := Lib.hid ht
          have HOL := Lib.hid hol
          have HH11 := Lib.hid h11
          have hlen2 : q + t.flat.length + e.flat.length + 2 < z.l.length := by omega
          clear hm256 ho256 he hde hml han hq1 hq1' hq2 hq4 hdr hrun hr' hwt hrl HQ hend hdt ht hol hm0 hxx hxe
          have hop : opB x = true := by simp [opB, h11]
          have e2 := (OR.at0 HOW.out).1 q _ (ownRow_open HX.out hop)
          have hcd := cdAt_get HX.out
          have HOP := Lib.hid (show opB (cdAt z.l q) = true by rw [hcd]; exact hop)
          clear hop hcd h11
          go_wp2_with fail
          go_region_held3 (fun w' => w'.cell? ⟨z.g, 0, none⟩ = some (.pointer (some ⟨z.mg, 0, none⟩)) ∧ w'.cell? ⟨z.mg, 0, none⟩ = some (.slice (some ⟨lb, off, none⟩) z.l.length z.ca) ∧ w'.cell? ⟨lb, off + q * 4, none⟩ = some (.int .i64 x.op) ∧ w'.cell? ⟨lb, off + q * 4 + 1, none⟩ = some (.int .i64 x.a) ∧ w'.cell? ⟨lb, off + q * 4 + 2, none⟩ = some (.int .i64 x.b) ∧ w'.cell? ⟨lb, off + q * 4 + 3, none⟩ = some (.int .i64 x.c) ∧
              w'.cell? ⟨z.mg, 1, none⟩ = some (.slice (some ⟨z.ob, 0, none⟩) z.l.length z.l.length) ∧ w'.cell? ⟨z.ob, q, none⟩ = some (.pointer (some ⟨z.ga q, 0, none⟩))) (first | go_keep | fail) (fail)
          rename_i hh
          clear hh
          have hX5 := HX1.out.trans (Ext.drew (w1.alloc (.cells #[.int .i64 x.op, .int .i64 x.a, .int .i64 x.b, .int .i64 x.c] 76)))
          have HB5 := Lib.hid ((Ext.drew (w1.alloc (.cells #[.int .i64 x.op, .int .i64 x.a, .int .i64 x.b, .int .i64 x.c] 76))).heap_ HBX.out)
          have hS5 := HS1.out.ext hX5 (show z.B ≤ w1.heap.size by omega)
          have hst5 := hst1.trans (StI.of_ext hX5 (by omega))
          generalize (w1.alloc (.cells #[.int .i64 x.op, .int .i64 x.a, .int .i64 x.b, .int .i64 x.c] 76)).drew = w5 at *
          have hs5 := hst5.size
          have d0 := cell_of_heap HB5.out 0
          have d1 := cell_of_heap HB5.out 1
          have d2 := cell_of_heap HB5.out 2
          clear hX5 hst1 c0 e0 e1 e2 l0 l1 l2 l3 n1 n2 n3 n4 hs1
          have e11 : (x.op == 11) = true := beq_iff_eq.2 HH11.out
          go_wp2_with fail
          refine (active_c hS5 hok1 m HM.out x.a ha).mono ?_
          rintro e6 w6 ⟨rfl, hb6⟩
          have hon : onesOf m x.a (beat q m s1) = onesOf m x.a s1 := rfl
          rw [hon]
          have hX6 := Ext.of_below hb6
          have hS6 := hS5.ext hX6 (by omega)
          have hst6 := hst5.trans (StI.of_ext hX6 (by omega))
          have hs6 := hst6.size
          obtain ⟨-, -, g1, g2⟩ := hS6.mach.own_open hql2 HOP.out
          rw [HEND.out] at g1 g2
          have hng : ¬ ((q + t.flat.length + 1 : Nat) : Int) < 0 := by omega
          clear hX6 hb6 hS5 hst5 d0 d1 d2
          go_wp2_with fail
          refine (HIH.out t.flat.length htl t (d - 1) (Nat.le_refl _) HT.out w6 z T1 tc1 U uc (beat q m s1) (q + 1) (onesOf m x.a s1) (q + t.flat.length + 1) _ _ _ (cElse :: (e.flat ++ cEnd :: (r'.flat ++ rest))) hS6 hok1 HBD1.out HOL.out HDT.out (by omega) hl (by omega) (by omega) (by simp [beat]; omega) HV.out (by omega) rfl rfl).mono ?_
          rintro e8 w8 ⟨rfl, T3, tc3, U3, uc3, hS8, hst8⟩
          replace hst6 := hst6.trans hst8
          have hs8 := hst6.size
          have hok8 := run_ok t (d - 1) (q + 1) (onesOf m x.a s1) (beat q m s1) HT.out HOL.out hok1
          have HBD8 := Lib.hid (run_bd t (q + 1) (onesOf m x.a s1) (beat q m s1) HBD1.out)
          have hbt := run_beats t (q + 1) (onesOf m x.a s1) (beat q m s1)
          have hbl1 : (beat q m s1).beats.length = s1.beats.length + 1 := by simp [beat]
          have hwt8 : (t.run (q + 1) (onesOf m x.a s1) (beat q m s1)).beats.length + e.wt + r'.wt ≤ 1000000000 := by omega
          obtain ⟨-, -, g1, g2⟩ := hS8.mach.own_open hql2 HOP.out
          rw [HEND.out] at g1 g2
          have han := HAN.out
          have qw : IntKind.i64.wrap (((q + t.flat.length + 1 : Nat) : Int) + 1) = ((q + t.flat.length + 2 : Nat) : Int) := by rw [IntWalk.i64_in _ (by omega)]; omega
          clear hbt hbl1 hS6 hst8
          generalize t.run (q + 1) (onesOf m x.a s1) (beat q m s1) = s8 at *
          go_wp2_with fail
          go_still_tail 13, (by kernel_rfl)
          go_wp2_with fail
          have hXd : Ext w8 w8.drew := Ext.drew w8
          refine (HIH.out e.flat.length hel e (d - 1) (Nat.le_refl _) HE.out w8.drew z T3 tc3 U3 uc3 s8 (q + t.flat.length + 2) (mdiff m (onesOf m x.a s1)) (q + t.flat.length + e.flat.length + 2) _ _ _ (cEnd :: (r'.flat ++ rest)) (hS8.ext hXd (by omega)) hok8 HBD8.out HML.out HDE.out (by omega) hl (by omega) (show z.B ≤ w8.heap.size by omega) (by omega) HV.out (by first | rfl | omega) rfl rfl).mono ?_
          rintro e9 w9 ⟨rfl, T4, tc4, U4, uc4, hS9, hst9⟩
          replace hst6 := (hst6.trans (StI.of_ext hXd (by omega))).trans hst9
          have hok9 := run_ok e (d - 1) (q + t.flat.length + 2) (mdiff m (onesOf m x.a s1)) s8 HE.out HML.out hok8
          have HBD9 := Lib.hid (run_bd e (q + t.flat.length + 2) (mdiff m (onesOf m x.a s1)) s8 HBD8.out)
          have hbt := run_beats e (q + t.flat.length + 2) (mdiff m (onesOf m x.a s1)) s8
          have hwt9 : (e.run (q + t.flat.length + 2) (mdiff m (onesOf m x.a s1)) s8).beats.length + r'.wt ≤ 1000000000 := by omega
          obtain ⟨-, -, -, g2⟩ := hS9.mach.own_open hql2 HOP.out
          rw [HEND.out] at g2
          clear hbt hS8 hst9 han g1 qw hXd
          go_wp2
          go_roundw
          case rel =>
            have hr := HR.out
            exact ⟨r', q + t.flat.length + e.flat.length + 3, T4, tc4, U4, uc4, _, by (congr 1; first | done | omega), Lib.hid ⟨hr.2.1, hr.2.2.1, hr.2.2.2, hr.1⟩, hqt', hS9, hok9, HBD9, hwt9, hrl', hst6⟩
          case measure => simp [intOf]; omega
        | loop a c t r' =>
          have hq := HQ.out
          obtain ⟨hq1, hq2, hq3, hq4⟩ := hq
          obtain ⟨ha, hc, hd1, ht, hr'⟩ := hq3
          have hq1' : z.l.drop q = cLoop a c :: (t.flat ++ cEnd :: (r'.flat ++ rest)) := by rw [hq1]; simp [Blk.flat]
          obtain ⟨hend, hdt, hdr⟩ := end_iff ht hq1'
          have hxx := (drop_cons hq1').1
          have hxe : x = cLoop a c := by have h := HX.out; rw [hxx] at h; injection h with h; exact h.symm
          have h11 : x.op = 13 := by rw [hxe]; rfl
          obtain rfl : a = x.a := by rw [hxe]; rfl
          obtain rfl : c = x.b := by rw [hxe]; rfl
          have hm0 : ¬ m = 0 := by intro e; subst e; simp at h0
          have hrun : Blk.run (.loop x.a x.b t r') q m s1 = r'.run (q + t.flat.length + 2) m (turnsOf (fun m s => t.run (q + 1) m s) x.a x.b.toNat m (beat q m s1)) := by
            simp only [Blk.run]; rw [if_neg hm0]
          have hlen : q + t.flat.length + 2 + r'.flat.length = te := by simp [Blk.flat] at hq2; omega
          have HR := Lib.hid (And.intro (hq4.trans hrun) (And.intro hdr (And.intro hlen hr')))
          have hwt1 : s1.beats.length + 1 + x.b.toNat * t.wt + r'.wt ≤ 1000000000 := by simp only [Blk.wt] at hwt; omega
          have hrl' : r'.flat.length ≤ b.flat.length := by simp [Blk.flat] at hrl; omega
          have htl : t.flat.length < N := by simp [Blk.flat] at hrl; omega
          have hqt' : q + t.flat.length + 2 ≤ te := by omega
          have HEND := Lib.hid hend
          have HDT := Lib.hid hdt
          have HT := Lib.hid ht
          have HH11 := Lib.hid h11
          have HC0 := Lib.hid (show x.c = 0 by rw [hxe]; rfl)
          have hlen2 : q + t.flat.length + 1 < z.l.length := by omega
          clear hq1 hq1' hq2 hq4 hdr hrun hr' hwt hrl HQ hend hdt ht hm0 hxx hxe
          have hop : opB x = true := by simp [opB, h11]
          have e2 := (OR.at0 HOW.out).1 q _ (ownRow_open HX.out hop)
          have hcd := cdAt_get HX.out
          have HOP := Lib.hid (show opB (cdAt z.l q) = true by rw [hcd]; exact hop)
          clear hop hcd h11
          go_wp2_with fail
          go_region_held3 (fun w' => w'.cell? ⟨z.g, 0, none⟩ = some (.pointer (some ⟨z.mg, 0, none⟩)) ∧ w'.cell? ⟨z.mg, 0, none⟩ = some (.slice (some ⟨lb, off, none⟩) z.l.length z.ca) ∧ w'.cell? ⟨lb, off + q * 4, none⟩ = some (.int .i64 x.op) ∧ w'.cell? ⟨lb, off + q * 4 + 1, none⟩ = some (.int .i64 x.a) ∧ w'.cell? ⟨lb, off + q * 4 + 2, none⟩ = some (.int .i64 x.b) ∧ w'.cell? ⟨lb, off + q * 4 + 3, none⟩ = some (.int .i64 x.c) ∧
              w'.cell? ⟨z.mg, 1, none⟩ = some (.slice (some ⟨z.ob, 0, none⟩) z.l.length z.l.length) ∧ w'.cell? ⟨z.ob, q, none⟩ = some (.pointer (some ⟨z.ga q, 0, none⟩))) (first | go_keep | fail) (fail)
          rename_i hh
          clear hh
          have hX5 := HX1.out.trans (Ext.drew (w1.alloc (.cells #[.int .i64 x.op, .int .i64 x.a, .int .i64 x.b, .int .i64 x.c] 76)))
          have HB5 := Lib.hid ((Ext.drew (w1.alloc (.cells #[.int .i64 x.op, .int .i64 x.a, .int .i64 x.b, .int .i64 x.c] 76))).heap_ HBX.out)
          have hS5 := HS1.out.ext hX5 (show z.B ≤ w1.heap.size by omega)
          have hst5 := hst1.trans (StI.of_ext hX5 (by omega))
          generalize (w1.alloc (.cells #[.int .i64 x.op, .int .i64 x.a, .int .i64 x.b, .int .i64 x.c] 76)).drew = w5 at *
          have hs5 := hst5.size
          have d0 := cell_of_heap HB5.out 0
          have d1 := cell_of_heap HB5.out 1
          have d2 := cell_of_heap HB5.out 2
          clear hX5 hst1 c0 e0 e1 e2 l0 l1 l2 l3 n1 n2 n3 n4 hs1
          have e11 : (x.op == 11) = false := by rw [HH11.out]; rfl
          have e13 : (x.op == 13) = true := beq_iff_eq.2 HH11.out
          have hbl1 : (beat q m s1).beats.length = s1.beats.length + 1 := by simp [beat]
          have HTO := Lib.hid (show turnsOf (fun m s => t.run (q + 1) m s) x.a x.b.toNat m (beat q m s1) = turnsOf (fun m s => t.run (q + 1) m s) x.a (x.b.toNat - 0) m (beat q m s1) from rfl)
          have hwt6 : (beat q m s1).beats.length + (x.b.toNat - 0) * t.wt + r'.wt ≤ 1000000000 := by rw [Nat.sub_zero]; omega
          have hcB : ((x.b.toNat : Nat) : Int) = x.b := by omega
          have hcn : x.b.toNat ≤ 4 := by omega
          have HB6 : Hid (w5.heap[w1.heap.size]? = some (.cells #[.int .i64 13, .int .i64 x.a, .int .i64 (x.b.toNat : Int), .int .i64 0] 76 (0, 0))) := by
            have := HB5.out
            rw [HH11.out, HC0.out, ← hcB] at this
            exact this
          have d2' : w5.cell? ⟨w1.heap.size, 2, none⟩ = some (.int .i64 (x.b.toNat : Int)) := by rw [hcB]; exact d2
          generalize beat q m s1 = s0 at *
          generalize x.b.toNat = cn at *
          clear d2 hbl1 hcB
          go_wp2
          obtain ⟨wo, rfl⟩ : ∃ wo : World, wo = wr := ⟨_, rfl⟩
          go_loopw [106, 12] (fun tv lv wl => RLRel w z w1.heap.size x.a (cn : Int) cn t q m s0 r'.wt tv lv wl) (fun tv _ _ => cn - (intOf tv).toNat)
          case atStart => exact ⟨0, m, T1, tc1, U, uc, s0, Nat.zero_le _, rfl, rfl, HM, HTO, hS5, hok1, HBD1, hwt6, HB6, hst5⟩
          case round =>
            clear hS5 hok1 HBD1 hwt6 HB6 hst5 hs5 d0 d1 d2' HTO HB5
            obtain ⟨j, mj, T3, tc3, U3, uc3, sj, hj, rfl, rfl, HMJ, HTJ, hSj, hokj, HBDj, hwtj, HBj, hstj⟩ := hrel
            have d1 : wr.cell? ⟨w1.heap.size, 1, none⟩ = some (.int .i64 x.a) := cell_of_heap HBj.out 1
            have hlj := onesOf_lt HMJ.out n8 x.a sj
            have HLJ := Lib.hid hlj
            have hszj := hstj.size
            clear hlj
            by_cases hjc : j < cn
            · have HTS := Lib.hid (turns_succ (fun m s => t.run (q + 1) m s) x.a hjc mj sj)
              have hwj2 : sj.beats.length + t.wt + (cn - (j + 1)) * t.wt + r'.wt ≤ 1000000000 := by
                have : (cn - j) * t.wt = t.wt + (cn - (j + 1)) * t.wt := by
                  rw [show cn - j = (cn - (j + 1)) + 1 by omega, Nat.add_mul]; omega
                omega
              go_wp2_with fail
              refine (active_c hSj hokj mj HMJ.out x.a ha).mono ?_
              rintro e6 w6 ⟨rfl, hb6⟩
              have hX6 := Ext.of_below hb6
              have hS6 := hSj.ext hX6 (by omega)
              have hst6 := hstj.trans (StI.of_ext hX6 (by omega))
              have hs6 := hst6.size
              have HB6 := Lib.hid (hX6.heap_ HBj.out)
              obtain ⟨-, -, -, g2⟩ := hS6.mach.own_open hql2 HOP.out
              rw [HEND.out] at g2
              clear hX6 hb6 hSj hstj d1
              go_wp2_with fail
              refine (HIH.out t.flat.length htl t (d - 1) (Nat.le_refl _) HT.out w6 z T3 tc3 U3 uc3 sj (q + 1) (onesOf mj x.a sj) (q + t.flat.length + 1) _ _ _ (cEnd :: (r'.flat ++ rest)) hS6 hokj HBDj.out HLJ.out HDT.out (by omega) hl (by omega) (by omega) (by omega) HV.out (by omega) rfl rfl).mono ?_
              rintro e8 w8 ⟨rfl, T4, tc4, U4, uc4, hS8, hst8⟩
              have HB8 := Lib.hid (hst8.code HB6.out)
              have hst9 := hst6.trans hst8
              have hok8 := run_ok t (d - 1) (q + 1) (onesOf mj x.a sj) sj HT.out HLJ.out hokj
              have HBD8 := Lib.hid (run_bd t (q + 1) (onesOf mj x.a sj) sj HBDj.out)
              have hbt := run_beats t (q + 1) (onesOf mj x.a sj) sj
              have hwt8 : (t.run (q + 1) (onesOf mj x.a sj) sj).beats.length + (cn - (j + 1)) * t.wt + r'.wt ≤ 1000000000 := by omega
              clear hbt hst8 hS6 g2
              generalize t.run (q + 1) (onesOf mj x.a sj) sj = s8 at *
              go_wp2
              go_roundw
              case rel => exact ⟨j + 1, onesOf mj x.a sj, T4, tc4, U4, uc4, s8, by omega, by go_num, rfl, HLJ, Lib.hid (by rw [HTJ.out, HTS.out]), hS8, hok8, HBD8, hwt8, HB8, hst9⟩
              case measure => simp [intOf]; omega
            · obtain rfl : j = cn := by omega
              obtain ⟨-, -, -, g2⟩ := hSj.mach.own_open hql2 HOP.out
              rw [HEND.out] at g2
              clear d1
              go_wp2
              go_roundw
              case rel =>
                have hr := HR.out
                exact ⟨r', q + t.flat.length + 2, T3, tc3, U3, uc3, sj, by (congr 1; first | done | omega), Lib.hid ⟨hr.2.1, hr.2.2.1, hr.2.2.2, by rw [hr.1, HTJ.out, Nat.sub_self]; rfl⟩, hqt', hSj, hokj, HBDj, by omega, hrl', hstj⟩
              case measure => simp [intOf]; omega
    · go_wp2
      go_end0
      have hq := HQ.out
      have hrn : r.flat.length = 0 := by omega
      have hr0 : r = .nil := by
        cases r with
        | nil => rfl
        | _ => simp [Blk.flat] at hrn
      subst hr0
      have e : b.run p m s = s1 := hq.2.2.2
      exact ⟨rfl, T, tc, U, uc, by rw [e]; exact hS, hst⟩


/-- A run whose first k lanes have their registers. -/
structure IAR (w : World) (B g mg : Nat) (A : Option Addr) (ca : Nat) (l : List Cd) (ob : Nat) (ga : Nat → Nat) (mb mc : Nat) (mem : List Int) (R : Option Addr) (rc : Nat) (rk : Nat → Nat) (k : Nat) : Prop where
  blk : w.heap[g]? = some (.cells #[.pointer (some ⟨mg, 0, none⟩), .slice R k rc, .slice (some ⟨mb, 0, none⟩) mem.length mc, .slice none 0 0, .slice none 0 0, .int .i64 0, .nilFunc] 98 (0, 0))
  gB : B ≤ g
  mach : MK w B mg A ca l ob ga
  out : OR w B 24 1 R k rc (regRows rk k)
  inn : ∀ j, j < k → OI w B (some ⟨rk j, 0, none⟩) 4 4 [0, 0, 0, 0]
  mem : OI w B (some ⟨mb, 0, none⟩) mem.length mc mem
  inj : ∀ i j, i < k → j < k → rk i = rk j → i = j
  mne : ∀ j, j < k → rk j ≠ mb

section
variable {w w3 : World} {B g mg : Nat} {A : Option Addr} {ca : Nat} {l : List Cd} {ob : Nat} {ga : Nat → Nat} {mb mc : Nat} {mem : List Int} {R : Option Addr} {rc : Nat} {rk : Nat → Nat} {k : Nat}
theorem regRows_succ (rk : Nat → Nat) (k v : Nat) : regRows (fun j => if j = k then v else rk j) (k + 1) = regRows rk k ++ [.slice (some ⟨v, 0, none⟩) 4 4] := by
  unfold regRows
  rw [List.range_succ, List.map_append]
  congr 1
  · apply List.map_congr_left
    intro j hj
    have : j < k := List.mem_range.1 hj
    simp [show j ≠ k by omega]
  · simp
theorem IAR.ext {w' : World} (h : IAR w B g mg A ca l ob ga mb mc mem R rc rk k) (hx : Ext w w') (hB : B ≤ w.heap.size) : IAR w' B g mg A ca l ob ga mb mc mem R rc rk k :=
  ⟨hx.heap_ h.blk, h.gB, h.mach.ext hx hB, h.out.ext hx, fun j hj => OR.ext (h.inn j hj) hx, OR.ext h.mem hx, h.inj, h.mne⟩
theorem IAR.step (h : IAR w B g mg A ca l ob ga mb mc mem R rc rk k) (hB : B ≤ w.heap.size) {gg cap : Nat} {cs : Array Value} (hcs : cs.toList = [.int .i64 0, .int .i64 0, .int .i64 0, .int .i64 0])
    (hg : ((w.alloc (.cells cs 3)).alloc (.cells #[.slice (some ⟨w.heap.size, 0, none⟩) 4 4] 24)).grownBy w3 (Value.ownBlock (.slice R k rc)))
    (ho : OR w3 B 24 1 (some ⟨gg, 0, none⟩) (k + 1) cap (regRows rk k ++ [.slice (some ⟨w.heap.size, 0, none⟩) 4 4])) :
    IAR (w3.setCell ⟨g, 1, none⟩ (.slice (some ⟨gg, 0, none⟩) (k + 1) cap)) B g mg A ca l ob ga mb mc mem (some ⟨gg, 0, none⟩) cap (fun j => if j = k then w.heap.size else rk j) (k + 1) ∧ Below B w (w3.setCell ⟨g, 1, none⟩ (.slice (some ⟨gg, 0, none⟩) (k + 1) cap)) := by
  have hX1 := Ext.alloc w (.cells cs 3)
  have hX2 := Ext.alloc (w.alloc (.cells cs 3)) (.cells #[.slice (some ⟨w.heap.size, 0, none⟩) 4 4] 24)
  have hrow : OI (w.alloc (.cells cs 3)) B (some ⟨w.heap.size, 0, none⟩) 4 4 [0, 0, 0, 0] := by
    have := OR.lit w B 3 1 4 cs hB (by omega) (by rw [← Array.length_toList, hcs]; rfl)
    rw [hcs] at this
    exact this
  have hrow2 := OR.ext hrow hX2
  have h2 := h.ext (hX1.trans hX2) hB
  have hglt : g < w.heap.size := lt_of_block h.blk
  generalize (w.alloc (.cells cs 3)).alloc (.cells #[.slice (some ⟨w.heap.size, 0, none⟩) 4 4] 24) = w2 at *
  have hblk3 := (hg.block g (lt_of_block h2.blk) (fun e => own_ne h2.out h2.blk (by decide) e.symm)).trans h2.blk
  have hlst : Below B w2 w3 := ⟨hg.os, hg.tape, hg.output, hg.size, fun j hj => hg.block j (by have := hX1.size; have := hX2.size; omega) (fun e => by have := (OR.block h2.out j e.symm).1; omega)⟩
  have hb2 : Below B w (w3.setCell ⟨g, 1, none⟩ (.slice (some ⟨gg, 0, none⟩) (k + 1) cap)) := ((((hX1.trans hX2).below).mono hB).trans hlst).setCell h.gB _
  have hb3 : Below B w2 (w3.setCell ⟨g, 1, none⟩ (.slice (some ⟨gg, 0, none⟩) (k + 1) cap)) := hlst.setCell h.gB _
  have ho' : OR w3 B 24 1 (some ⟨gg, 0, none⟩) (k + 1) cap (regRows (fun j => if j = k then w.heap.size else rk j) (k + 1)) := by rw [regRows_succ]; exact ho
  have lt_rk : ∀ j, j < k → rk j < w.heap.size := fun j hj => (OR.base_le (h.inn j hj)).2
  have lt_mb : mb < w.heap.size := (OR.base_le h.mem).2
  refine ⟨⟨?_, h.gB, h2.mach.keep hb3 (fun b cs hb => heap_app_set h2.out hg hblk3 1 _ hb (by decide) (by decide)) (fun b cs hb => heap_app_set h2.out hg hblk3 1 _ hb (by decide) (by decide)) (fun b cs hb => heap_app_set h2.out hg hblk3 1 _ hb (by decide) (by decide)),
    OR.set_other ho' (p := ⟨g, 1, none⟩) (own_ne ho' hblk3 (by decide)) _, fun j hj => ?_, OR.app_set h2.mem h2.out (by decide) hg hblk3 (by decide) 1 _, fun i j hi hj e => ?_, fun j hj => ?_⟩, hb2⟩
  · rw [heap_set_same hblk3]
    rfl
  · by_cases e : j = k
    · subst e
      simp only [if_true]
      exact OR.app_set hrow2 h2.out (by decide) hg hblk3 (by decide) 1 _
    · simp only [e, if_false]
      exact OR.app_set (h2.inn j (by omega)) h2.out (by decide) hg hblk3 (by decide) 1 _
  · by_cases e1 : i = k <;> by_cases e2 : j = k <;> simp only [e1, e2, if_true, if_false] at e
    · omega
    · have := lt_rk j (by omega); omega
    · have := lt_rk i (by omega); omega
    · exact h.inj i j (by omega) (by omega) e
  · by_cases e1 : j = k <;> simp only [e1, if_true, if_false]
    · omega
    · exact h.mne j (by omega)
theorem IAR.done {rg n : Nat} (h : IAR w B g mg A ca l ob ga mb mc mem (some ⟨rg, 0, none⟩) rc rk n) : IR w ⟨B, g, mg, A, ca, l, ob, ga, n, rg, rc, rk, mb, mc⟩ none 0 none 0 (LS.start n mem) := by
  refine ⟨h.blk, h.gB, h.mach, h.out, fun k hk => ?_, h.mem, OR.nil_ _ _ _ _, OR.nil_ _ _ _ _, h.inj, h.mne⟩
  have e : (LS.start n mem).regs.getD k [] = [0, 0, 0, 0] := by
    have hk' : k < n := hk
    simp [LS.start, List.getD_eq_getElem?_getD, hk']
  rw [e]
  exact h.inn k hk
end
theorem SOk.start' {n : Nat} {mem : List Int} (hn : n ≤ 8) (hm : wordsOk mem) (h1 : 1 ≤ mem.length) (h2 : mem.length ≤ 32) : SOk n (LS.start n mem) :=
  ⟨hn, by simp [LS.start], fun r hr => by
    have : r = [0, 0, 0, 0] := (List.mem_replicate.1 hr).2
    subst this
    exact ⟨rfl, fun v hv => by simp at hv; omega⟩, hm, h1, h2⟩

/-- What runLock leaves for valid arguments. -/
def RLPost (w : World) (l : List Cd) (n : Nat) (s : LS) (e : Ending) (w' : World) : Prop :=
  ∃ (z : IW) (T : Option Addr) (tc : Nat) (U : Option Addr) (uc : Nat), e = .returned (.tuple #[.pointer (some ⟨z.g, 0, none⟩), .bool true]) ∧ z.B = w.heap.size ∧ z.l = l ∧ z.n = n ∧ IR w' z T tc U uc s ∧ Below w.heap.size w w'

def RLk (w : World) (l : List Cd) (n : Int) (mem : List Int) (e : Ending) (w' : World) : Prop :=
  (lockOk l n mem = true ∧ RLPost w l n.toNat (lockS l n.toNat mem) e w') ∨ (lockOk l n mem = false ∧ e = .returned (.tuple #[.pointer none, .bool false]) ∧ Below w.heap.size w w')
def RLoRel (w : World) (g mg : Nat) (A : Option Addr) (ca : Nat) (l : List Cd) (ob : Nat) (ga : Nat → Nat) (n mb mc : Nat) (mem : List Int) (kv : Value) (wr : World) : Prop :=
  ∃ (k : Nat) (R : Option Addr) (rc : Nat) (rk : Nat → Nat), k ≤ n ∧ kv = .int .i64 k ∧ IAR wr w.heap.size g mg A ca l ob ga mb mc mem R rc rk k ∧ Below w.heap.size w wr

set_option maxRecDepth 100000 in
set_option maxHeartbeats 8000000 in
theorem runLock_c (A Am : Option Addr) (ca cm : Nat) (l : List Cd) (n : Int) (mem : List Int) (w : World) (hA : RdC w w.heap.size A l) (hM : RdI w w.heap.size Am mem) (hl : l.length ≤ 1000000000) (hml : mem.length ≤ 1000000000) :
    Calls Tryz.prog 69 #[.slice A l.length ca, .int .i64 n, .slice Am mem.length cm, .nilFunc] w (RLk w l n mem) := by
  cases hok : lockOk l n mem with
  | false =>
    go_enter Tryz.func69, Tryz.ntmps69
    go_wp2_with fail
    refine (canRun_c A Am ca cm l n mem w hA hM hl hml).mono ?_
    rintro e w1 ⟨rfl, hb1⟩
    rw [hok]
    go_wp2
    go_ret2
    exact .inr ⟨hok, rfl, hb1⟩
  | true =>
    have h' := hok
    simp only [lockOk, Bool.and_eq_true] at h'
    obtain ⟨hp, hin, hmem⟩ := h'
    obtain ⟨k, rfl⟩ : ∃ k : Nat, n = (k : Int) := ⟨n.toNat, by have := (inR_iff.1 hin).1; omega⟩
    have hk1 : 1 ≤ k := by have := (inR_iff.1 hin).1; omega
    have hk8 : k ≤ 8 := by have := (inR_iff.1 hin).2; omega
    obtain ⟨hm0, hm1, hm2⟩ := memOk_iff.1 hmem
    have h40 := (pv_iff.1 hp).1
    have HP := Lib.hid hp
    have HOK := Lib.hid hok
    have HMW := Lib.hid hm0
    have hcm : Am = none → cm = 0 := fun e => by
      obtain ⟨mb0, mo0, y0, e2, _⟩ := hM.at_ (k := 0) (by omega)
      rw [e2] at e; cases e
    have hmk : ∀ w : World, (Instr.makeSlice 24 (.int .i64 4) (.int .i64 4)).run Tryz.prog w = .ok (.slice (some ⟨w.heap.size, 0, none⟩) 4 4) (w.alloc (.cells (zeroRow (.int .i64 0) 4) 3)) := make_int 4 (by omega)
    clear hp hin hmem hm0
    go_enter Tryz.func69, Tryz.ntmps69
    go_wp2_with fail
    refine (canRun_c A Am ca cm l k mem w hA hM hl hml).mono ?_
    rintro e w1 ⟨rfl, hb1⟩
    rw [hok]
    clear hok
    go_wp2_with fail
    refine (newMachine_c A ca l w1 ((hA.below hb1).more hb1.size) HP.out).mono ?_
    rintro e w2 ⟨mg, ob, ga, rfl, hMK, hb2⟩
    have hbW := below_trans hb1 (Nat.le_refl _) hb2
    go_wp2_with fail
    refine (cloneI_c Am cm mem w2 ((hM.below hbW).more hbW.size) hml hcm).mono ?_
    rintro e w3 ⟨Ac, cc, rfl, hOM, hb3⟩
    obtain ⟨mb, rfl, -, hmbl, -⟩ := OR.at_ hOM (by omega)
    have hbW3 := below_trans hbW (Nat.le_refl _) hb3
    have hs3 := hbW3.size
    have hMK3 := (hMK.ext (Ext.of_below hb3) hb2.size)
    have hX4 := Ext.alloc w3 (.cells #[.pointer (some ⟨mg, 0, none⟩), .slice none 0 0, .slice (some ⟨mb, 0, none⟩) mem.length cc, .slice none 0 0, .slice none 0 0, .int .i64 0, .nilFunc] 98)
    have hN4 := heap_alloc_new w3 (.cells #[.pointer (some ⟨mg, 0, none⟩), .slice none 0 0, .slice (some ⟨mb, 0, none⟩) mem.length cc, .slice none 0 0, .slice none 0 0, .int .i64 0, .nilFunc] 98)
    have hMK4 : MK (w3.alloc (.cells #[.pointer (some ⟨mg, 0, none⟩), .slice none 0 0, .slice (some ⟨mb, 0, none⟩) mem.length cc, .slice none 0 0, .slice none 0 0, .int .i64 0, .nilFunc] 98)) w.heap.size mg A ca l ob ga := by
      have h4 := hMK3.ext hX4 (Nat.le_trans hb2.size hb3.size)
      exact ⟨h4.blk, Nat.le_trans hb1.size h4.gB, h4.own.mono hb1.size, fun p hp ho => ⟨Nat.le_trans hb1.size (h4.bks p hp ho).1, (h4.bks p hp ho).2⟩, hA.below (hbW3.alloc hs3 _)⟩
    have hAR : IAR (w3.alloc (.cells #[.pointer (some ⟨mg, 0, none⟩), .slice none 0 0, .slice (some ⟨mb, 0, none⟩) mem.length cc, .slice none 0 0, .slice none 0 0, .int .i64 0, .nilFunc] 98)) w.heap.size w3.heap.size mg A ca l ob ga mb cc mem none 0 (fun _ => 0) 0 :=
      ⟨hN4, hs3, hMK4, OR.nil_ _ _ _ _, fun j hj => by omega, OR.ext (OR.mono hOM hbW.size) hX4, fun i j hi => by omega, fun j hj => by omega⟩
    have hbA : Below w.heap.size w (w3.alloc (.cells #[.pointer (some ⟨mg, 0, none⟩), .slice none 0 0, .slice (some ⟨mb, 0, none⟩) mem.length cc, .slice none 0 0, .slice none 0 0, .int .i64 0, .nilFunc] 98)) := hbW3.alloc hs3 _
    clear hX4 hN4 hMK4 hMK3 hMK hOM
    go_wp2_with fail
    generalize w3.alloc (.cells #[.pointer (some ⟨mg, 0, none⟩), .slice none 0 0, .slice (some ⟨mb, 0, none⟩) mem.length cc, .slice none 0 0, .slice none 0 0, .int .i64 0, .nilFunc] 98) = w4 at *
    generalize w3.heap.size = g at *
    clear hbW3 hs3 hb3 hbW hb2 hb1 hmbl
    go_loopw [24] (fun kv wr => RLoRel w g mg A ca l ob ga k mb cc mem kv wr) (fun kv _ => k - (intOf kv).toNat)
    case atStart => exact ⟨0, none, 0, _, Nat.zero_le _, rfl, hAR, hbA⟩
    case round =>
      clear hAR hbA
      obtain ⟨j, R, rc, rk, hj, rfl, hR, hb2⟩ := hrel
      have hBr := hb2.size
      have hblk := hR.blk
      have c1 : wr.cell? ⟨g, 1, none⟩ = some (.slice R j rc) := cell_of_heap hblk 1
      have HR := Lib.hid hR
      by_cases hlt : j < k
      · obtain ⟨i0, hi0, hz0, hz1, hz2⟩ := info_parts infoRows
        have hOR := Lib.hid (OR.drew (OR.alloc (OR.alloc hR.out (.cells (zeroRow (.int .i64 0) 4) 3)) (.cells #[.slice (some ⟨wr.heap.size, 0, none⟩) 4 4] 24)))
        have hgl : g < wr.heap.size := lt_of_block hblk
        have hne : Value.ownBlock (.slice R j rc) ≠ some g := own_ne hR.out hblk (by decide)
        have hnew := heap_alloc_new (wr.alloc (.cells (zeroRow (.int .i64 0) 4) 3)) (.cells #[.slice (some ⟨wr.heap.size, 0, none⟩) 4 4] 24)
        simp only [World.size_alloc] at hnew
        have f1 := free_of_heap hblk 1
        have h1 := (Below.heap_alloc wr (.cells (zeroRow (.int .i64 0) 4) 3) g hgl).trans hblk
        have h2 := (Below.heap_alloc (wr.alloc (.cells (zeroRow (.int .i64 0) 4) 3)) (.cells #[.slice (some ⟨wr.heap.size, 0, none⟩) 4 4] 24) g (by simp; omega)).trans h1
        clear hR
        go_wp2_with fail
        go_region_law ((refine step_append_lies _ (by rfl) _ _ _ (by rfl) w.heap.size 24 i0 _ 1 24 Tryz.underlying25 hi0 hz0 hz1 hz2 rfl (by omega) (.slice R j rc) j _ (by rfl) hOR.out ⟨wr.heap.size + 1, 0, none⟩ 1 1 [.slice (some ⟨wr.heap.size, 0, none⟩) 4 4] (by rfl) (by rfl) (World.news_of_block (cs := #[.slice (some ⟨wr.heap.size, 0, none⟩) 4 4]) (t := 24) (fr := (0, 0)) hnew) (by simp [Value.oneCell']) (by omega) (by unfold maxLen; omega) (by omega) (by simp; omega) (wr.heap.size + 2) (by simp) ?_; intro gg cap w3 ho3 hgrow hat hlt3; have f3 := free_of_heap ((hgrow.block g (by simp; omega) (fun e => hne e.symm)).trans h2) 1; have c3 := cell_of_heap ((hgrow.block g (by simp; omega) (fun e => hne e.symm)).trans h2) 1))
        all_goals
          have hst := HR.out.step hBr (cs := zeroRow (.int .i64 0) 4) ((toList_madeCells_one _ _).trans rfl) (grown_drew2' hgrow) ho3
          clear c1 hblk h1 h2 f1 hnew hOR ho3 hgrow c3 f3 hat
          obtain ⟨hR', hbS⟩ := hst
          have hb3 := hb2.trans hbS
          go_wp2
          refine ⟨⟨j + 1, _, cap, _, by omega, by go_num, hR', hb3⟩, ?_⟩
          simp [intOf]; omega
      · obtain rfl : j = k := by omega
        obtain ⟨rg, rfl, -, -, -⟩ := OR.at_ hR.out (by omega)
        have hSR := hR.done
        have hmm : 2 ^ j - 1 < 2 ^ j := by have : 0 < 2 ^ j := Nat.pow_pos (by decide); omega
        obtain ⟨ht1, ht2⟩ := treeOf_spec HP.out
        have hwt := wt_le _ 3 ht1
        rw [ht2] at hwt
        have HT1 := Lib.hid ht1
        have HT2 := Lib.hid ht2
        have HALL := Lib.hid (show maskAllI (j : Int) = ((2 ^ j - 1 : Nat) : Int) by
          have : j = 1 ∨ j = 2 ∨ j = 3 ∨ j = 4 ∨ j = 5 ∨ j = 6 ∨ j = 7 ∨ j = 8 := by omega
          rcases this with rfl | rfl | rfl | rfl | rfl | rfl | rfl | rfl <;> decide)
        clear c1 hblk hR ht1 ht2
        go_wp2_with fail
        refine (iMaskAll_c j wr).mono ?_
        rintro e w5 ⟨rfl, rfl⟩
        rw [HALL.out]
        go_wp2_with fail
        refine (run_c (treeOf l).flat.length (treeOf l) 3 (Nat.le_refl _) HT1.out wr ⟨w.heap.size, g, mg, A, ca, l, ob, ga, j, rg, rc, rk, mb, cc⟩ none 0 none 0 (LS.start j mem) 0 (2 ^ j - 1) l.length 0 l.length _ [] hSR (SOk.start' hk8 HMW.out hm1 hm2) (Bd.start _ _) hmm (by simp [HT2.out]) (by simp [HT2.out]) (show l.length ≤ 1000 by omega) (Nat.le_refl _) hBr (by simp [LS.start]; omega) (pv_all HP.out) rfl rfl rfl).mono ?_
        rintro e w6 ⟨rfl, T', tc', U', uc', hS', hst'⟩
        go_wp2
        go_ret2
        exact .inl ⟨HOK.out, ⟨w.heap.size, g, mg, A, ca, l, ob, ga, j, rg, rc, rk, mb, cc⟩, T', tc', U', uc', rfl, rfl, rfl, rfl, hS', hb2.trans hst'.bel⟩


section
variable {P : Program} {a : Act} {w : World}
/-- A function's end with two results, the first a struct. -/
theorem ret_cell2 {fn : Func} {R : Ending → World → Prop} {t t2 : Tmp} {ty : TypeId} (h : fn.results = #[.cell t ty, .tmp t2]) (b : Nat) (ht : a.tmps.getD t undef = .pointer (some ⟨b, 0, none⟩)) (v : Value) (hv : a.tmps.getD t2 undef = v) (cs : Array Value) (tt : TypeId) (fr : Nat × Nat)
    (hh : w.heap[b]? = some (.cells cs tt fr)) (d : TypeDesc) (hu : P.underlying ty = some d) (hd : (match d with | .struct _ | .array _ _ => true | _ => false) = true) (hi : (P.info? ty).map (·.size) = some cs.size)
    (hf : a.defers = []) (hR : R (.returned (.tuple #[.agg cs, v])) w) : bodyPost P fn R .ret a w := by
  have hrun := run_loadVar_row (P := P) w b tt ty cs fr d hh hu hd hi
  refine bodyPost_ret ?_ hf hR
  have ht2 : a.tmps[t]?.getD undef = .pointer (some ⟨b, 0, none⟩) := by simpa using ht
  have hv2 : a.tmps[t2]?.getD undef = v := by simpa using hv
  simp [results, h, ht2, hv2, asAddr, hrun, Result.andThen]
end

/-- What is read of a run when its barriers are looked at. -/
structure SpR (w : World) (z : IW) (bs : List (Nat × Nat)) (T : Option Addr) (tc : Nat) (b : Nat) : Prop where
  c0 : w.cell? ⟨z.g, 0, none⟩ = some (.pointer (some ⟨z.mg, 0, none⟩))
  c1 : w.cell? ⟨z.g, 1, none⟩ = some (.slice (some ⟨z.rg, 0, none⟩) z.n z.rc)
  c3 : w.cell? ⟨z.g, 3, none⟩ = some (.slice T bs.length tc)
  d0 : w.cell? ⟨z.mg, 0, none⟩ = some (.slice z.A z.l.length z.ca)
  bx : w.cell? ⟨b, 0, none⟩ = some (.pointer (some ⟨z.g, 0, none⟩))
  lst : RdC w w.heap.size z.A z.l
  trc : Reads w w.heap.size 2 T bs.length (beatsV bs)

set_option maxRecDepth 100000 in
set_option maxHeartbeats 4000000 in
theorem splitF_c {w : World} {z : IW} {bs : List (Nat × Nat)} {T : Option Addr} {tc b : Nat} (h : SpR w z bs T tc b) {p m : Nat} (hp : p < z.l.length) (hm : m < 256) (hl : z.l.length ≤ 1000000000) (hn : 1 ≤ z.n ∧ z.n ≤ 8) :
    Calls Tryz.prog 105 #[.agg #[.int .i64 p, .int .i64 m], .pointer (some ⟨b, 0, none⟩)] w fun e w' => e = .returned (.bool (opAt z.l p == 10 && !(m == 2 ^ z.n - 1))) ∧ Below w.heap.size w w' := by
  obtain ⟨lb, lo, y, hzA, hbB, hy, l0, -, -, -⟩ := h.lst.at_ hp
  have d0 := h.d0
  have c0 := h.c0
  have c1 := h.c1
  have bx := h.bx
  rw [hzA] at d0
  have hop : opAt z.l p = y.op := opAt_get hy
  have HALL := Lib.hid (show maskAllI (z.n : Int) = ((2 ^ z.n - 1 : Nat) : Int) by
    have : z.n = 1 ∨ z.n = 2 ∨ z.n = 3 ∨ z.n = 4 ∨ z.n = 5 ∨ z.n = 6 ∨ z.n = 7 ∨ z.n = 8 := by omega
    rcases this with h | h | h | h | h | h | h | h <;> rw [h] <;> decide)
  have hpI : (p : Int) < (z.l.length : Int) := by omega
  rw [hop]
  have hbg := World.block_lt_of_cell? w _ c0
  have hbm := World.block_lt_of_cell? w _ d0
  have hbb := World.block_lt_of_cell? w _ bx
  have hbl := World.block_lt_of_cell? w _ l0
  have hX := Ext.alloc w (.cells #[.int .i64 p, .int .i64 m] 78)
  have hN := heap_alloc_new w (.cells #[.int .i64 p, .int .i64 m] 78)
  have n0 := cell_of_heap hN 0
  have n1 := cell_of_heap hN 1
  have hB0 := hX.below
  clear hop hy h
  cases ho : (y.op == 10) with
  | false =>
    go_enter Tryz.func105, Tryz.ntmps105
    go_wp2_with fail
    replace l0 := hX.cell l0
    replace d0 := hX.cell d0
    replace c0 := hX.cell c0
    replace c1 := hX.cell c1
    replace bx := hX.cell bx
    clear hX hN
    generalize w.alloc (.cells #[.int .i64 p, .int .i64 m] 78) = W at *
    go_quiet (fail)
    go_wp2
    go_ret
    exact ⟨rfl, hB0.trans ⟨rfl, rfl, rfl, Nat.le_refl _, fun _ _ => rfl⟩⟩
  | true =>
    go_enter Tryz.func105, Tryz.ntmps105
    go_wp2_with fail
    replace l0 := hX.cell l0
    replace d0 := hX.cell d0
    replace c0 := hX.cell c0
    replace c1 := hX.cell c1
    replace bx := hX.cell bx
    clear hX hN
    generalize w.alloc (.cells #[.int .i64 p, .int .i64 m] 78) = W at *
    have HM := Lib.hid (fun W => by have := iMaskAll_c z.n W; rw [HALL.out] at this; exact this)
    go_still_tail 24, (by kernel_rfl)
    still_call (calls_flip (HM.out _))
    repeat still_step
    try refine wpStill_nil ?_
    go_wp2
    go_ret
    refine ⟨retb ?_, hB0.trans ⟨rfl, rfl, rfl, Nat.le_refl _, fun _ _ => rfl⟩⟩
    have e : ((m : Int) == ((2 ^ z.n - 1 : Nat) : Int)) = (m == 2 ^ z.n - 1) := by
      rw [Bool.eq_iff_iff]
      simp only [beq_iff_eq]
      exact Int.natCast_inj
    rw [Bool.true_and, bne, e]

theorem splitB_take {l : List Cd} {n k : Nat} {bs : List (Nat × Nat)} {q : Nat × Nat} (hq : bs[k]? = some q) (h : splitB l n (bs.take k) = false) : splitB l n (bs.take (k + 1)) = (opAt l q.1 == 10 && !(q.2 == 2 ^ n - 1)) := by
  obtain ⟨hk, rfl⟩ := List.getElem?_eq_some_iff.1 hq
  rw [List.take_succ_eq_append_getElem hk]
  have := splitB_snoc l n (bs.take k) bs[k].1 bs[k].2
  rw [h, Bool.false_or] at this
  exact this
theorem splitB_hit {l : List Cd} {n k : Nat} {bs : List (Nat × Nat)} {q : Nat × Nat} (hq : bs[k]? = some q) (h : (opAt l q.1 == 10 && !(q.2 == 2 ^ n - 1)) = true) : splitB l n bs = true :=
  List.any_eq_true.2 ⟨q, List.mem_of_getElem? hq, h⟩
theorem SpR.below {w w' : World} {z : IW} {bs : List (Nat × Nat)} {T : Option Addr} {tc b : Nat} (h : SpR w z bs T tc b) (hb : Below w.heap.size w w') : SpR w' z bs T tc b :=
  ⟨cell_kept hb h.c0, cell_kept hb h.c1, cell_kept hb h.c3, cell_kept hb h.d0, cell_kept hb h.bx, (h.lst.below hb).more hb.size, (h.trc.below hb).more hb.size⟩

set_option maxRecDepth 100000 in
set_option maxHeartbeats 4000000 in
theorem splitI_c {w : World} {z : IW} {bs : List (Nat × Nat)} {T : Option Addr} {tc b : Nat} (h : SpR w z bs T tc b) (hin : ∀ q ∈ bs, q.1 < z.l.length ∧ q.2 < 256) (hlen : bs.length ≤ 2560) (hl : z.l.length ≤ 1000000000) (hn : 1 ≤ z.n ∧ z.n ≤ 8) :
    Calls Tryz.prog 104 #[.slice T bs.length tc, .func (Fn.func 105) #[] #[.pointer (some ⟨b, 0, none⟩)]] w fun e w' => ∃ i : Int, e = .returned (.int .i64 i) ∧ decide (0 ≤ i) = splitB z.l z.n bs ∧ (0 ≤ i → i < bs.length) ∧ Below w.heap.size w w' := by
  have HIN := Lib.hid hin
  clear hin
  go_enter Tryz.func104, Tryz.ntmps104
  go_wp2
  go_loopw [8] (fun kv wr => ∃ k : Nat, k ≤ bs.length ∧ kv = .int .i64 k ∧ Hid (splitB z.l z.n (bs.take k) = false) ∧ Below w.heap.size w wr) (fun kv _ => bs.length - (intOf kv).toNat)
  case atStart => exact ⟨0, Nat.zero_le _, rfl, Lib.hid rfl, Below.refl _ _⟩
  case round =>
    obtain ⟨k, hk, rfl, HN, hb⟩ := hrel
    by_cases hlt : k < bs.length
    · have hq : bs[k]? = some (bs[k]) := List.getElem?_eq_getElem hlt
      generalize bs[k] = q at hq
      obtain ⟨p, mm⟩ := q
      obtain ⟨hpl, hmm⟩ := HIN.out _ (List.mem_of_getElem? hq)
      have h' := h.below hb
      have HH := Lib.hid h'
      obtain ⟨g, off, rfl, hg2, hc⟩ := h'.trc.2 (by omega)
      have hcells := beatsV_get bs k _ hq
      have e0 := hc _ _ hcells.1
      have e1 := hc _ _ hcells.2
      rw [← Nat.add_assoc] at e1
      have hkI : (k : Int) < (bs.length : Int) := by omega
      have HQ := Lib.hid hq
      clear hq hcells h' hc hg2 h
      go_wp2_with fail
      refine (splitF_c HH.out hpl hmm hl hn).mono ?_
      rintro e w1 ⟨rfl, hb1⟩
      have hb2 := below_trans hb (Nat.le_refl _) hb1
      cases hs : (opAt z.l p == 10 && !(mm == 2 ^ z.n - 1)) with
      | true =>
        have HS := Lib.hid (splitB_hit HQ.out hs)
        go_wp2
        go_ret
        exact ⟨k, rfl, by rw [HS.out]; simp, fun _ => hkI, hb2⟩
      | false =>
        have HS := Lib.hid (show splitB z.l z.n (bs.take (k + 1)) = false by rw [splitB_take HQ.out HN.out]; exact hs)
        go_wp2
        go_roundw
        case rel => exact ⟨k + 1, by omega, by go_num, HS, hb2⟩
        case measure => simp [intOf]; omega
    · obtain rfl : k = bs.length := by omega
      have HN2 := Lib.hid (show splitB z.l z.n bs = false by have := HN.out; rwa [List.take_length] at this)
      go_wp2
      go_ret
      exact ⟨-1, rfl, by rw [HN2.out]; simp, fun h => by omega, hb⟩

set_option maxRecDepth 100000 in
set_option maxHeartbeats 4000000 in
theorem split_c {w : World} {z : IW} {T U : Option Addr} {tc uc : Nat} {s : LS} (h : IR w z T tc U uc s) (hin : ∀ q ∈ s.beats, q.1 < z.l.length ∧ q.2 < 256) (hlen : s.beats.length ≤ 2560) (hl : z.l.length ≤ 1000000000) (hn : 1 ≤ z.n ∧ z.n ≤ 8) (hB : z.B ≤ w.heap.size) :
    Calls Tryz.prog 70 #[.pointer (some ⟨z.g, 0, none⟩)] w fun e w' => ∃ p m : Int, e = .returned (.tuple #[.agg #[.int .i64 p, .int .i64 m], .bool (splitB z.l z.n s.beats)]) ∧ Below w.heap.size w w' := by
  obtain ⟨c0, c1, -, c3, -, -, -⟩ := h.cells
  obtain ⟨d0, -⟩ := h.mach.cells
  have hX1 := Ext.alloc w (.cells #[.pointer (some ⟨z.g, 0, none⟩)] 88)
  have hX2 := Ext.alloc (w.alloc (.cells #[.pointer (some ⟨z.g, 0, none⟩)] 88)) (.cells #[.int .i64 0, .int .i64 0] 78)
  have hX := hX1.trans hX2
  have hN1 := hX2.heap_ (heap_alloc_new w (.cells #[.pointer (some ⟨z.g, 0, none⟩)] 88))
  have hN2 := heap_alloc_new (w.alloc (.cells #[.pointer (some ⟨z.g, 0, none⟩)] 88)) (.cells #[.int .i64 0, .int .i64 0] 78)
  have hsz : (w.alloc (.cells #[.pointer (some ⟨z.g, 0, none⟩)] 88)).heap.size = w.heap.size + 1 := by simp
  rw [hsz] at hN2
  have hsr : SpR ((w.alloc (.cells #[.pointer (some ⟨z.g, 0, none⟩)] 88)).alloc (.cells #[.int .i64 0, .int .i64 0] 78)) z s.beats T tc w.heap.size :=
    ⟨hX.cell c0, hX.cell c1, hX.cell c3, hX.cell d0, cell_of_heap hN1 0, (h.mach.lst.below (hX.below.mono hB)).more (by have := hX.size; omega), (h.trc.ext hX).reads⟩
  have hsz2 := hX.size
  have hszz : ((w.alloc (.cells #[.pointer (some ⟨z.g, 0, none⟩)] 88)).alloc (.cells #[.int .i64 0, .int .i64 0] 78)).heap.size = w.heap.size + 2 := by simp
  have hbl := hX.below
  have HIN := Lib.hid hin
  generalize s.beats = bs at *
  clear h hin hX1 hX2
  have hmf : ∀ (fn : Fn) (first cap : Array Value) (w : World), (Instr.makeFunc fn first cap).run Tryz.prog w = .ok (.func fn first cap) w := fun _ _ _ _ => rfl
  have k0 := hsr.c0
  have k3 := hsr.c3
  have kb := hsr.bx
  have kn0 := cell_of_heap hN2 0
  have kn1 := cell_of_heap hN2 1
  have kf0 := free_of_heap hN2 0
  have kf1 := free_of_heap hN2 1
  clear c0 c1 c3 d0
  go_enter Tryz.func70, Tryz.ntmps70
  go_wp2_with fail
  refine (splitI_c hsr HIN.out hlen hl hn).mono ?_
  rintro e w3 ⟨i, rfl, hi, hi2, hb3⟩
  have hbw := below_trans hbl (Nat.le_refl _) hb3
  have hN3 := (hb3.block (w.heap.size + 1) (by omega)).trans hN2
  have x0 : w3.cell? ⟨w.heap.size + 1, 0, none⟩ = some (.int .i64 0) := cell_of_heap hN3 0
  have x1 : w3.cell? ⟨w.heap.size + 1, 1, none⟩ = some (.int .i64 0) := cell_of_heap hN3 1
  have f0 := free_of_heap hN3 0
  have f1 := free_of_heap hN3 1
  have q0 := cell_kept hb3 k0
  have q3 := cell_kept hb3 k3
  have qb := cell_kept hb3 kb
  have hsz3 := hb3.size
  have HR := Lib.hid (hsr.trc.below hb3)
  have HB := Lib.hid hbw
  clear k0 k3 kb kn0 kn1 kf0 kf1 hsr hbl hN1 hN2
  cases hs : splitB z.l z.n bs with
  | false =>
    rw [hs] at hi
    have hi3 : decide (i < 0) = true := decide_eq_true (by have := of_decide_eq_false hi; omega)
    clear hi hi2
    have hz1 := heap_set_same hN3 0 (.int .i64 0)
    have hz2 := heap_set_same hz1 1 (.int .i64 0)
    go_wp2_with fail
    refine ret_cell2 Tryz.results70 _ rfl _ rfl _ _ _ hz2 _ (Tryz.underlying78) rfl (by kernel_rfl) rfl ?_
    exact ⟨0, 0, by rw [hs]; rfl, (HB.out.setCell (p := ⟨w.heap.size + 1, 0, none⟩) (by simp) _).setCell (p := ⟨w.heap.size + 1, 1, none⟩) (by simp) _⟩
  | true =>
    rw [hs] at hi
    have hi3 : decide (i < 0) = false := decide_eq_false (by have := of_decide_eq_true hi; omega)
    obtain ⟨k, rfl⟩ : ∃ k : Nat, i = (k : Int) := ⟨i.toNat, by have := of_decide_eq_true hi; omega⟩
    have hk : k < bs.length := by have := hi2 (by omega); omega
    have hkI := hi2 (by omega)
    have hq : bs[k]? = some (bs[k]) := List.getElem?_eq_getElem hk
    generalize bs[k] = q at hq
    obtain ⟨g, off, rfl, hg2, hc⟩ := HR.out.2 (by omega)
    have hcells := beatsV_get bs k _ hq
    have e0 := hc _ _ hcells.1
    have e1 := hc _ _ hcells.2
    rw [← Nat.add_assoc] at e1
    have hz1 := heap_set_same hN3 0 (.int .i64 q.1)
    have hz2 := heap_set_same hz1 1 (.int .i64 q.2)
    clear hi hi2 hq hcells hc hg2
    go_wp2_with fail
    refine ret_cell2 Tryz.results70 _ rfl _ rfl _ _ _ hz2 _ (Tryz.underlying78) rfl (by kernel_rfl) rfl ?_
    exact ⟨q.1, q.2, by rw [hs]; rfl, (HB.out.setCell (p := ⟨w.heap.size + 1, 0, none⟩) (by simp) _).setCell (p := ⟨w.heap.size + 1, 1, none⟩) (by simp) _⟩

theorem lock_in {l : List Cd} {n : Int} {m : List Int} (h : lockOk l n m = true) : ∀ q ∈ (lockS l n.toNat m).beats, q.1 < l.length ∧ q.2 < 256 := by
  intro q hq
  have h' := h
  simp only [lockOk, Bool.and_eq_true] at h'
  have hn := inR_iff.1 h'.2.1
  have := trace_in (l := l) (n := n) (m := m) q (by unfold traceOf; rw [if_pos h]; exact hq)
  have h8 : 2 ^ n.toNat ≤ 2 ^ 8 := Nat.pow_le_pow_right (by decide) (by omega)
  exact ⟨this.1, by have := this.2.2; omega⟩

/-- What RunLock returns. -/
noncomputable def runOf (l : List Cd) (n : Int) (mem : List Int) : List Int := if lockOk l n mem then (lockS l n.toNat mem).mem else []

end Go.Proofs.YtelbfeidpcojmaaGreat
