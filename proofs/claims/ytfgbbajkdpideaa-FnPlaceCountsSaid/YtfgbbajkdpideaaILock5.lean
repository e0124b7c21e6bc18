/- The program's run in lockstep: the walk. -/
import Derived.Test.YtfgbbajkdpideaaILock4
namespace Go.Proofs.Ytfgbbajkdpideaa
open Go.RowKit
set_option linter.unusedVariables false
set_option linter.unusedSimpArgs false

/-- What a call of run leaves. -/
def RunPost (w : World) (z : IW) (b : Blk) (p m : Nat) (s : LS) (e : Ending) (w' : World) : Prop :=
  e = .returned (.tuple #[]) ∧ ∃ T tc U uc, IR w' z T tc U uc (b.run p m s) ∧ StI z.B w w'

def RNRel (w : World) (z : IW) (b : Blk) (d p m te : Nat) (s : LS) (rest : List Cd) (kv : Value) (wr : World) : Prop :=
  ∃ (r : Blk) (q : Nat) (T : Option Addr) (tc : Nat) (U : Option Addr) (uc : Nat) (s1 : LS), kv = .int .i64 q ∧ Hid (z.l.drop q = r.flat ++ rest ∧ q + r.flat.length = te ∧ r.ok d ∧ b.run p m s = r.run q m s1) ∧ q ≤ te ∧
    IR wr z T tc U uc s1 ∧ SOk z.n s1 ∧ Hid (Bd s1) ∧ s1.beats.length + r.wt ≤ 1000000000 ∧ r.flat.length ≤ b.flat.length ∧ StI z.B w wr

def RLRel (w : World) (z : IW) (cb : Nat) (a c : Int) (cn : Nat) (t : Blk) (q m : Nat) (s0 : LS) (rw : Nat) (tv lv : Value) (wl : World) : Prop :=
  ∃ (j mj : Nat) (T : Option Addr) (tc : Nat) (U : Option Addr) (uc : Nat) (sj : LS), j ≤ cn ∧ tv = .int .i64 j ∧ lv = .int .i64 mj ∧ Hid (mj < 2 ^ z.n) ∧
    Hid (turnsOf (fun m s => t.run (q + 1) m s) a cn m s0 = turnsOf (fun m s => t.run (q + 1) m s) a (cn - j) mj sj) ∧
    IR wl z T tc U uc sj ∧ SOk z.n sj ∧ Hid (Bd sj) ∧ sj.beats.length + (cn - j) * t.wt + rw ≤ 1000000000 ∧ Hid (wl.heap[cb]? = some (.cells #[.int .i64 13, .int .i64 a, .int .i64 c, .int .i64 0] 50 (0, 0))) ∧ StI z.B w wl

theorem ownRow_plain {l : List Cd} {ga : Nat → Nat} {q : Nat} {x : Cd} (hx : l[q]? = some x) (h10 : x.op ≤ 10) : (ownRow l ga l.length)[q]? = some (.pointer none) := by
  have hq := (List.getElem?_eq_some_iff.1 hx).1
  have e1 : opB x = false := by simp [opB]; omega
  have e2 : (x.op == 12) = false := beq_eq_false_iff_ne.2 (by omega)
  have e3 : (x.op == 14) = false := beq_eq_false_iff_ne.2 (by omega)
  rw [ownRow_get _ _ _ _ hq, if_pos hq]
  simp [ownV, ownP, cdAt_get hx, e1, e2, e3]
theorem ownRow_open {l : List Cd} {ga : Nat → Nat} {q : Nat} {x : Cd} (hx : l[q]? = some x) (ho : opB x = true) : (ownRow l ga l.length)[q]? = some (.pointer (some ⟨ga q, 0, none⟩)) := by
  have hq := (List.getElem?_eq_some_iff.1 hx).1
  rw [ownRow_get _ _ _ _ hq, if_pos hq]
  simp [ownV, ownP, cdAt_get hx, ho, ptrV]

set_option maxRecDepth 100000 in
set_option maxHeartbeats 16000000 in
theorem run_c (N : Nat) : ∀ (b : Blk) (d : Nat), b.flat.length ≤ N → b.ok d → ∀ (w : World) (z : IW) (T : Option Addr) (tc : Nat) (U : Option Addr) (uc : Nat) (s : LS) (p m te : Nat) (fi ti mi : Int) (rest : List Cd),
    IR w z T tc U uc s → SOk z.n s → Bd s → m < 2 ^ z.n → z.l.drop p = b.flat ++ rest → p + b.flat.length = te → z.l.length ≤ 1000 → te ≤ z.l.length → z.B ≤ w.heap.size → s.beats.length + b.wt ≤ 1000000000 → (∀ x ∈ z.l, cvOk x = true) →
    fi = p → ti = te → mi = m →
    Calls Try.prog 46 #[.pointer (some ⟨z.g, 0, none⟩), .int .i64 fi, .int .i64 ti, .int .i64 mi] w (RunPost w z b p m s) := by
  induction N using Nat.strongRecOn with
  | ind N IH =>
  intro b d hbN hbd w z T tc U uc s p m te fi ti mi rest hS hok hbd0 hm hdrop hte hl hle hB hwt hval hfi hti hmi
  subst hfi hti hmi
  have n8 := hok.n8
  have HIH := Lib.hid IH
  have HV := Lib.hid hval
  have m256 : m < 256 := Nat.lt_of_lt_of_le hm (Nat.pow_le_pow_right (by decide) n8)
  have HM := Lib.hid hm
  have HTE := Lib.hid hte
  have hpt : p ≤ te := by omega
  have HD := Lib.hid hdrop
  clear IH hval hm hte hdrop
  go_enter Try.func46, Try.ntmps46
  go_wp2
  go_loopw [8] (fun kv wr => RNRel w z b d p m te s rest kv wr) (fun kv _ => te - (intOf kv).toNat)
  case atStart => exact ⟨b, p, T, tc, U, uc, s, rfl, Lib.hid ⟨HD.out, HTE.out, hbd, rfl⟩, hpt, hS, hok, Lib.hid hbd0, hwt, Nat.le_refl _, StI.refl _ _⟩
  case round =>
    clear hS hok hwt hbd0
    obtain ⟨r, q, T, tc, U, uc, s1, rfl, HQ, hqt, hS, hok, HBD, hwt, hrl, hst⟩ := hrel
    have hsz := hst.size
    by_cases hlt : q < te
    · by_cases hm0 : m = 0
      · subst hm0
        have h0 : (((0 : Nat) : Int) != 0) = false := by simp
        go_wp2
        go_end0
        have hq := HQ.out
        have e : b.run p 0 s = s1 := by rw [hq.2.2.2, run_zero]
        exact ⟨rfl, T, tc, U, uc, by rw [e]; exact hS, hst⟩
      · have h0 : ((m : Int) != 0) = true := by rw [bne_iff_ne]; omega
        have hBr : z.B ≤ wr.heap.size := by omega
        have hql2 : q < z.l.length := by omega
        have hx := cdAt_get' hql2
        generalize cdAt z.l q = x at hx
        have HX := Lib.hid hx
        have hbl : s1.beats.length ≤ 1000000000 := by omega
        clear hx hm0
        go_wp2_with fail
        refine (beat_c hS q m (by omega) (by omega) hbl hBr).mono ?_
        rintro e w1 ⟨rfl, T1, tc1, hS1, hst1⟩
        replace hst1 := hst.trans hst1
        have hs1 := hst1.size
        have hok1 := hok.beat q m
        have HBD1 := Lib.hid (HBD.out.beat q m)
        obtain ⟨lb, off, y, hA, hbB, hy, l0, l1, l2, l3⟩ := hS1.mach.lst.at_ hql2
        rw [HX.out] at hy
        injection hy with hy
        subst hy
        obtain ⟨c0, c1, c2, c3, c4, c5, c6⟩ := hS1.cells
        obtain ⟨e0, e1⟩ := hS1.mach.cells
        rw [hA] at e0
        have HA := Lib.hid hA
        have HS1 := Lib.hid hS1
        have hqlI : (q : Int) < (z.l.length : Int) := by omega
        have n1 : z.g < w1.heap.size := hS1.glt
        have n2 : z.mg < w1.heap.size := hS1.mach.glt
        have n3 : lb < w1.heap.size := by omega
        have n4 : z.ob < w1.heap.size := (OR.base_le hS1.mach.own).2
        have HOW := Lib.hid hS1.mach.own
        have hX1 := Ext.alloc w1 (.cells #[.int .i64 x.op, .int .i64 x.a, .int .i64 x.b, .int .i64 x.c] 50)
        have HX1 := Lib.hid hX1
        have HBX := Lib.hid (heap_alloc_new w1 (.cells #[.int .i64 x.op, .int .i64 x.a, .int .i64 x.b, .int .i64 x.c] 50))
        clear hA hS hst hX1 hS1 c1 c2 c3 c4 c5 c6
        cases r with
        | nil =>
          have hq := HQ.out
          simp [Blk.flat] at hq
          omega
        | op x' r' =>
          have hq := HQ.out
          obtain ⟨hq1, hq2, hq3, hq4⟩ := hq
          obtain ⟨hvx, h1x, h10x, hr'⟩ := hq3
          have hdr := drop_cons hq1
          obtain rfl : x = x' := by have h := HX.out; rw [hdr.1] at h; injection h with h; exact h.symm
          have e2 := (OR.at0 HOW.out).1 q _ (ownRow_plain HX.out h10x)
          go_wp2_with fail
          go_region_held3 (fun w' => w'.cell? ⟨z.g, 0, none⟩ = some (.pointer (some ⟨z.mg, 0, none⟩)) ∧ w'.cell? ⟨z.mg, 0, none⟩ = some (.slice (some ⟨lb, off, none⟩) z.l.length z.ca) ∧ w'.cell? ⟨lb, off + q * 4, none⟩ = some (.int .i64 x.op) ∧ w'.cell? ⟨lb, off + q * 4 + 1, none⟩ = some (.int .i64 x.a) ∧ w'.cell? ⟨lb, off + q * 4 + 2, none⟩ = some (.int .i64 x.b) ∧ w'.cell? ⟨lb, off + q * 4 + 3, none⟩ = some (.int .i64 x.c) ∧
              w'.cell? ⟨z.mg, 1, none⟩ = some (.slice (some ⟨z.ob, 0, none⟩) z.l.length z.l.length) ∧ w'.cell? ⟨z.ob, q, none⟩ = some (.pointer none)) (first | go_keep | fail) (fail)
          rename_i hh
          clear hh
          have hX5 := HX1.out.trans (Ext.drew (w1.alloc (.cells #[.int .i64 x.op, .int .i64 x.a, .int .i64 x.b, .int .i64 x.c] 50)))
          have HB5 := Lib.hid ((Ext.drew (w1.alloc (.cells #[.int .i64 x.op, .int .i64 x.a, .int .i64 x.b, .int .i64 x.c] 50))).heap_ HBX.out)
          have hS5 := HS1.out.ext hX5 (show z.B ≤ w1.heap.size by omega)
          have hst5 := hst1.trans (StI.of_ext hX5 (by omega))
          generalize (w1.alloc (.cells #[.int .i64 x.op, .int .i64 x.a, .int .i64 x.b, .int .i64 x.c] 50)).drew = w5 at *
          have hs5 := hst5.size
          have d0 := cell_of_heap HB5.out 0
          have d1 := cell_of_heap HB5.out 1
          have d2 := cell_of_heap HB5.out 2
          clear hX5 hst1 c0 e0 e1 e2 l0 l1 l2 l3 n1 n2 n3 n4 hs1
          have e11 : (x.op == 11) = false := beq_eq_false_iff_ne.2 (by omega)
          have e13 : (x.op == 13) = false := beq_eq_false_iff_ne.2 (by omega)
          have hrun : Blk.run (.op x r') q m s1 = r'.run (q + 1) m (execM x m (beat q m s1)) := by
            simp only [Blk.run]; rw [if_neg (by intro e; subst e; simp at h0)]
          have HR := Lib.hid (And.intro (hq4.trans hrun) (And.intro hdr.2.1 (And.intro (show q + 1 + r'.flat.length = te by simp [Blk.flat] at hq2; omega) hr')))
          have hwt' : s1.beats.length + 1 + r'.wt ≤ 1000000000 := by simp only [Blk.wt] at hwt; omega
          have hrl' : r'.flat.length ≤ b.flat.length := by simp [Blk.flat] at hrl; omega
          have hqt' : q + 1 ≤ te := by omega
          have hbb := HBD1.out
          have hbl1 : (beat q m s1).beats.length = s1.beats.length + 1 := by simp [beat]
          have HBB := Lib.hid (show (beat q m s1).accs.length ≤ 100000000000 ∧ (beat q m s1).phase ≤ 1000000000 by obtain ⟨b1, b2⟩ := hbb; omega)
          clear hq1 hq2 hq4 hdr hrun hr' hwt hrl HQ hbb hbl1
          go_wp2_with fail
          refine (execute_c hS5 hok1 HX.out hvx h10x m HM.out HBB.out.1 HBB.out.2 (by omega) (by omega)).mono ?_
          rintro e w6 ⟨rfl, U6, uc6, hS6, hst6⟩
          have hst7 := hst5.trans hst6
          have hok6 := hok1.execM hvx HM.out
          have HBD6 := Lib.hid (HBD.out.op x q m)
          have hb6 : (execM x m (beat q m s1)).beats.length = s1.beats.length + 1 := by rw [execM_beats]; simp [beat]
          clear hS5 hst5 hst6 d0 d1 d2
          go_wp2
          go_roundw
          case rel =>
            have hr := HR.out
            exact ⟨r', q + 1, T1, tc1, U6, uc6, _, by go_num, Lib.hid ⟨hr.2.1, hr.2.2.1, hr.2.2.2, hr.1⟩, hqt', hS6, hok6, HBD6, by omega, hrl', hst7⟩
          case measure => simp [intOf]; omega
        | iff a t r' =>
          have hq := HQ.out
          obtain ⟨hq1, hq2, hq3, hq4⟩ := hq
          obtain ⟨ha, hd1, ht, hr'⟩ := hq3
          have hq1' : z.l.drop q = cIf a :: (t.flat ++ cEnd :: (r'.flat ++ rest)) := by rw [hq1]; simp [Blk.flat]
          obtain ⟨hend, hdt, hdr⟩ := end_iff ht hq1'
          have hxx := (drop_cons hq1').1
          have hxe : x = cIf a := by have h := HX.out; rw [hxx] at h; injection h with h; exact h.symm
          have h11 : x.op = 11 := by rw [hxe]; rfl
          obtain rfl : a = x.a := by rw [hxe]; rfl
          have hm0 : ¬ m = 0 := by intro e; subst e; simp at h0
          have hrun : Blk.run (.iff x.a t r') q m s1 = r'.run (q + t.flat.length + 2) m (t.run (q + 1) (onesOf m x.a s1) (beat q m s1)) := by
            simp only [Blk.run]; rw [if_neg hm0]
          have hlen : q + t.flat.length + 2 + r'.flat.length = te := by simp [Blk.flat] at hq2; omega
          have HR := Lib.hid (And.intro (hq4.trans hrun) (And.intro hdr (And.intro hlen hr')))
          have hwt1 : s1.beats.length + 1 + t.wt + r'.wt ≤ 1000000000 := by simp only [Blk.wt] at hwt; omega
          have hrl' : r'.flat.length ≤ b.flat.length := by simp [Blk.flat] at hrl; omega
          have htl : t.flat.length < N := by simp [Blk.flat] at hrl; omega
          have hqt' : q + t.flat.length + 2 ≤ te := by omega
          have hol := onesOf_lt HM.out n8 x.a s1
          have HEND := Lib.hid hend
          have HDT := Lib.hid hdt
          have HT := Lib.hid ht
          have HOL := Lib.hid hol
          have HH11 := Lib.hid h11
          have hlen2 : q + t.flat.length + 1 < z.l.length := by omega
          clear hq1 hq1' hq2 hq4 hdr hrun hr' hwt hrl HQ hend hdt ht hol hm0 hxx hxe
          have hop : opB x = true := by simp [opB, h11]
          have e2 := (OR.at0 HOW.out).1 q _ (ownRow_open HX.out hop)
          have hcd := cdAt_get HX.out
          have HOP := Lib.hid (show opB (cdAt z.l q) = true by rw [hcd]; exact hop)
          clear hop hcd h11
          go_wp2_with fail
          go_region_held3 (fun w' => w'.cell? ⟨z.g, 0, none⟩ = some (.pointer (some ⟨z.mg, 0, none⟩)) ∧ w'.cell? ⟨z.mg, 0, none⟩ = some (.slice (some ⟨lb, off, none⟩) z.l.length z.ca) ∧ w'.cell? ⟨lb, off + q * 4, none⟩ = some (.int .i64 x.op) ∧ w'.cell? ⟨lb, off + q * 4 + 1, none⟩ = some (.int .i64 x.a) ∧ w'.cell? ⟨lb, off + q * 4 + 2, none⟩ = some (.int .i64 x.b) ∧ w'.cell? ⟨lb, off + q * 4 + 3, none⟩ = some (.int .i64 x.c) ∧
              w'.cell? ⟨z.mg, 1, none⟩ = some (.slice (some ⟨z.ob, 0, none⟩) z.l.length z.l.length) ∧ w'.cell? ⟨z.ob, q, none⟩ = some (.pointer (some ⟨z.ga q, 0, none⟩))) (first | go_keep | fail) (fail)
          rename_i hh
          clear hh
          have hX5 := HX1.out.trans (Ext.drew (w1.alloc (.cells #[.int .i64 x.op, .int .i64 x.a, .int .i64 x.b, .int .i64 x.c] 50)))
          have HB5 := Lib.hid ((Ext.drew (w1.alloc (.cells #[.int .i64 x.op, .int .i64 x.a, .int .i64 x.b, .int .i64 x.c] 50))).heap_ HBX.out)
          have hS5 := HS1.out.ext hX5 (show z.B ≤ w1.heap.size by omega)
          have hst5 := hst1.trans (StI.of_ext hX5 (by omega))
          generalize (w1.alloc (.cells #[.int .i64 x.op, .int .i64 x.a, .int .i64 x.b, .int .i64 x.c] 50)).drew = w5 at *
          have hs5 := hst5.size
          have d0 := cell_of_heap HB5.out 0
          have d1 := cell_of_heap HB5.out 1
          have d2 := cell_of_heap HB5.out 2
          clear hX5 hst1 c0 e0 e1 e2 l0 l1 l2 l3 n1 n2 n3 n4 hs1
          have e11 : (x.op == 11) = true := beq_iff_eq.2 HH11.out
          go_wp2_with fail
          refine (active_c hS5 hok1 m HM.out x.a ha).mono ?_
          rintro e w6 ⟨rfl, hb6⟩
          have hon : onesOf m x.a (beat q m s1) = onesOf m x.a s1 := rfl
          rw [hon]
          have hX6 := Ext.of_below hb6
          have hS6 := hS5.ext hX6 (by omega)
          have hst6 := hst5.trans (StI.of_ext hX6 (by omega))
          have hs6 := hst6.size
          obtain ⟨-, -, g1, g2⟩ := hS6.mach.own_open hql2 HOP.out
          rw [HEND.out] at g1 g2
          clear hX6 hb6 hS5 hst5 d0 d1 d2
          go_wp2_with fail
          refine (HIH.out t.flat.length htl t (d - 1) (Nat.le_refl _) HT.out w6 z T1 tc1 U uc (beat q m s1) (q + 1) (onesOf m x.a s1) (q + t.flat.length + 1) _ _ _ (cEnd :: (r'.flat ++ rest)) hS6 hok1 HBD1.out HOL.out HDT.out (by omega) hl (by omega) (by omega) (by simp [beat]; omega) HV.out (by omega) rfl rfl).mono ?_
          rintro e w8 ⟨rfl, T3, tc3, U3, uc3, hS8, hst8⟩
          replace hst6 := hst6.trans hst8
          have hok8 := run_ok t (d - 1) (q + 1) (onesOf m x.a s1) (beat q m s1) HT.out HOL.out hok1
          have HBD8 := Lib.hid (run_bd t (q + 1) (onesOf m x.a s1) (beat q m s1) HBD1.out)
          have hbt := run_beats t (q + 1) (onesOf m x.a s1) (beat q m s1)
          have hbl1 : (beat q m s1).beats.length = s1.beats.length + 1 := by simp [beat]
          have hwt8 : (t.run (q + 1) (onesOf m x.a s1) (beat q m s1)).beats.length + r'.wt ≤ 1000000000 := by omega
          obtain ⟨-, -, -, g2⟩ := hS8.mach.own_open hql2 HOP.out
          rw [HEND.out] at g2
          clear hbt hbl1 hS6 hst8 g1
          go_wp2
          go_roundw
          case rel =>
            have hr := HR.out
            exact ⟨r', q + t.flat.length + 2, T3, tc3, U3, uc3, _, by (congr 1; first | done | omega), Lib.hid ⟨hr.2.1, hr.2.2.1, hr.2.2.2, hr.1⟩, hqt', hS8, hok8, HBD8, hwt8, hrl', hst6⟩
          case measure => simp [intOf]; omega
        | ife a t e r' =>
          have hq := HQ.out
          obtain ⟨hq1, hq2, hq3, hq4⟩ := hq
          obtain ⟨ha, hd1, ht, he, hr'⟩ := hq3
          have hq1' : z.l.drop q = cIf a :: (t.flat ++ cElse :: (e.flat ++ cEnd :: (r'.flat ++ rest))) := by rw [hq1]; simp [Blk.flat]
          obtain ⟨hend, hdt, hde, hdr⟩ := end_ife ht he hq1'
          have hxx := (drop_cons hq1').1
          have hxe : x = cIf a := by have h := HX.out; rw [hxx] at h; injection h with h; exact h.symm
          have h11 : x.op = 11 := by rw [hxe]; rfl
          obtain rfl : a = x.a := by rw [hxe]; rfl
          have hm0 : ¬ m = 0 := by intro e; subst e; simp at h0
          have hrun : Blk.run (.ife x.a t e r') q m s1 = r'.run (q + t.flat.length + e.flat.length + 3) m (e.run (q + t.flat.length + 2) (mdiff m (onesOf m x.a s1)) (t.run (q + 1) (onesOf m x.a s1) (beat q m s1))) := by
            simp only [Blk.run]; rw [if_neg hm0]
          have hlen : q + t.flat.length + e.flat.length + 3 + r'.flat.length = te := by simp [Blk.flat] at hq2; omega
          have HR := Lib.hid (And.intro (hq4.trans hrun) (And.intro hdr (And.intro hlen hr')))
          have hwt1 : s1.beats.length + 1 + t.wt + e.wt + r'.wt ≤ 1000000000 := by simp only [Blk.wt] at hwt; omega
          have hrl' : r'.flat.length ≤ b.flat.length := by simp [Blk.flat] at hrl; omega
          have htl : t.flat.length < N := by simp [Blk.flat] at hrl; omega
          have hel : e.flat.length < N := by simp [Blk.flat] at hrl; omega
          have hqt' : q + t.flat.length + e.flat.length + 3 ≤ te := by omega
          have hml : mdiff m (onesOf m x.a s1) < 2 ^ z.n := mdiff_lt HM.out
          have hm256 : m < 4611686018427387904 := by omega
          have ho256 : onesOf m x.a s1 < 4611686018427387904 := by
            have h1 := onesOf_lt HM.out n8 x.a s1
            have h2 : 2 ^ z.n ≤ 2 ^ 8 := Nat.pow_le_pow_right (by decide) n8
            omega
          have han := bits_andNot64 m (onesOf m x.a s1) hm256 ho256
          have HAN := Lib.hid han
          have HE := Lib.hid he
          have HML := Lib.hid hml
          have HDE := Lib.hid hde
          have hol := onesOf_lt HM.out n8 x.a s1
          have HEND := Lib.hid hend
          have HDT := Lib.hid hdt
          have HT := Lib.hid ht
          have HOL := Lib.hid hol
          have HH11 := Lib.hid h11
          have hlen2 : q + t.flat.length + e.flat.length + 2 < z.l.length := by omega
          clear hm256 ho256 he hde hml han hq1 hq1' hq2 hq4 hdr hrun hr' hwt hrl HQ hend hdt ht hol hm0 hxx hxe
          have hop : opB x = true := by simp [opB, h11]
          have e2 := (OR.at0 HOW.out).1 q _ (ownRow_open HX.out hop)
          have hcd := cdAt_get HX.out
          have HOP := Lib.hid (show opB (cdAt z.l q) = true by rw [hcd]; exact hop)
          clear hop hcd h11
          go_wp2_with fail
          go_region_held3 (fun w' => w'.cell? ⟨z.g, 0, none⟩ = some (.pointer (some ⟨z.mg, 0, none⟩)) ∧ w'.cell? ⟨z.mg, 0, none⟩ = some (.slice (some ⟨lb, off, none⟩) z.l.length z.ca) ∧ w'.cell? ⟨lb, off + q * 4, none⟩ = some (.int .i64 x.op) ∧ w'.cell? ⟨lb, off + q * 4 + 1, none⟩ = some (.int .i64 x.a) ∧ w'.cell? ⟨lb, off + q * 4 + 2, none⟩ = some (.int .i64 x.b) ∧ w'.cell? ⟨lb, off + q * 4 + 3, none⟩ = some (.int .i64 x.c) ∧
              w'.cell? ⟨z.mg, 1, none⟩ = some (.slice (some ⟨z.ob, 0, none⟩) z.l.length z.l.length) ∧ w'.cell? ⟨z.ob, q, none⟩ = some (.pointer (some ⟨z.ga q, 0, none⟩))) (first | go_keep | fail) (fail)
          rename_i hh
          clear hh
          have hX5 := HX1.out.trans (Ext.drew (w1.alloc (.cells #[.int .i64 x.op, .int .i64 x.a, .int .i64 x.b, .int .i64 x.c] 50)))
          have HB5 := Lib.hid ((Ext.drew (w1.alloc (.cells #[.int .i64 x.op, .int .i64 x.a, .int .i64 x.b, .int .i64 x.c] 50))).heap_ HBX.out)
          have hS5 := HS1.out.ext hX5 (show z.B ≤ w1.heap.size by omega)
          have hst5 := hst1.trans (StI.of_ext hX5 (by omega))
          generalize (w1.alloc (.cells #[.int .i64 x.op, .int .i64 x.a, .int .i64 x.b, .int .i64 x.c] 50)).drew = w5 at *
          have hs5 := hst5.size
          have d0 := cell_of_heap HB5.out 0
          have d1 := cell_of_heap HB5.out 1
          have d2 := cell_of_heap HB5.out 2
          clear hX5 hst1 c0 e0 e1 e2 l0 l1 l2 l3 n1 n2 n3 n4 hs1
          have e11 : (x.op == 11) = true := beq_iff_eq.2 HH11.out
          go_wp2_with fail
          refine (active_c hS5 hok1 m HM.out x.a ha).mono ?_
          rintro e6 w6 ⟨rfl, hb6⟩
          have hon : onesOf m x.a (beat q m s1) = onesOf m x.a s1 := rfl
          rw [hon]
          have hX6 := Ext.of_below hb6
          have hS6 := hS5.ext hX6 (by omega)
          have hst6 := hst5.trans (StI.of_ext hX6 (by omega))
          have hs6 := hst6.size
          obtain ⟨-, -, g1, g2⟩ := hS6.mach.own_open hql2 HOP.out
          rw [HEND.out] at g1 g2
          have hng : ¬ ((q + t.flat.length + 1 : Nat) : Int) < 0 := by omega
          clear hX6 hb6 hS5 hst5 d0 d1 d2
          go_wp2_with fail
          refine (HIH.out t.flat.length htl t (d - 1) (Nat.le_refl _) HT.out w6 z T1 tc1 U uc (beat q m s1) (q + 1) (onesOf m x.a s1) (q + t.flat.length + 1) _ _ _ (cElse :: (e.flat ++ cEnd :: (r'.flat ++ rest))) hS6 hok1 HBD1.out HOL.out HDT.out (by omega) hl (by omega) (by omega) (by simp [beat]; omega) HV.out (by omega) rfl rfl).mono ?_
          rintro e8 w8 ⟨rfl, T3, tc3, U3, uc3, hS8, hst8⟩
          replace hst6 := hst6.trans hst8
          have hs8 := hst6.size
          have hok8 := run_ok t (d - 1) (q + 1) (onesOf m x.a s1) (beat q m s1) HT.out HOL.out hok1
          have HBD8 := Lib.hid (run_bd t (q + 1) (onesOf m x.a s1) (beat q m s1) HBD1.out)
          have hbt := run_beats t (q + 1) (onesOf m x.a s1) (beat q m s1)
          have hbl1 : (beat q m s1).beats.length = s1.beats.length + 1 := by simp [beat]
          have hwt8 : (t.run (q + 1) (onesOf m x.a s1) (beat q m s1)).beats.length + e.wt + r'.wt ≤ 1000000000 := by omega
          obtain ⟨-, -, g1, g2⟩ := hS8.mach.own_open hql2 HOP.out
          rw [HEND.out] at g1 g2
          have han := HAN.out
          have qw : IntKind.i64.wrap (((q + t.flat.length + 1 : Nat) : Int) + 1) = ((q + t.flat.length + 2 : Nat) : Int) := by rw [IntWalk.i64_in _ (by omega)]; omega
          clear hbt hbl1 hS6 hst8
          generalize t.run (q + 1) (onesOf m x.a s1) (beat q m s1) = s8 at *
          go_wp2_with fail
          go_still_tail 13, (by kernel_rfl)
          go_wp2_with fail
          have hXd : Ext w8 w8.drew := Ext.drew w8
          refine (HIH.out e.flat.length hel e (d - 1) (Nat.le_refl _) HE.out w8.drew z T3 tc3 U3 uc3 s8 (q + t.flat.length + 2) (mdiff m (onesOf m x.a s1)) (q + t.flat.length + e.flat.length + 2) _ _ _ (cEnd :: (r'.flat ++ rest)) (hS8.ext hXd (by omega)) hok8 HBD8.out HML.out HDE.out (by omega) hl (by omega) (show z.B ≤ w8.heap.size by omega) (by omega) HV.out (by first | rfl | omega) rfl rfl).mono ?_
          rintro e9 w9 ⟨rfl, T4, tc4, U4, uc4, hS9, hst9⟩
          replace hst6 := (hst6.trans (StI.of_ext hXd (by omega))).trans hst9
          have hok9 := run_ok e (d - 1) (q + t.flat.length + 2) (mdiff m (onesOf m x.a s1)) s8 HE.out HML.out hok8
          have HBD9 := Lib.hid (run_bd e (q + t.flat.length + 2) (mdiff m (onesOf m x.a s1)) s8 HBD8.out)
          have hbt := run_beats e (q + t.flat.length + 2) (mdiff m (onesOf m x.a s1)) s8
          have hwt9 : (e.run (q + t.flat.length + 2) (mdiff m (onesOf m x.a s1)) s8).beats.length + r'.wt ≤ 1000000000 := by omega
          obtain ⟨-, -, -, g2⟩ := hS9.mach.own_open hql2 HOP.out
          rw [HEND.out] at g2
          clear hbt hS8 hst9 han g1 qw hXd
          go_wp2
          go_roundw
          case rel =>
            have hr := HR.out
            exact ⟨r', q + t.flat.length + e.flat.length + 3, T4, tc4, U4, uc4, _, by (congr 1; first | done | omega), Lib.hid ⟨hr.2.1, hr.2.2.1, hr.2.2.2, hr.1⟩, hqt', hS9, hok9, HBD9, hwt9, hrl', hst6⟩
          case measure => simp [intOf]; omega
        | loop a c t r' =>
          have hq := HQ.out
          obtain ⟨hq1, hq2, hq3, hq4⟩ := hq
          obtain ⟨ha, hc, hd1, ht, hr'⟩ := hq3
          have hq1' : z.l.drop q = cLoop a c :: (t.flat ++ cEnd :: (r'.flat ++ rest)) := by rw [hq1]; simp [Blk.flat]
          obtain ⟨hend, hdt, hdr⟩ := end_iff ht hq1'
          have hxx := (drop_cons hq1').1
          have hxe : x = cLoop a c := by have h := HX.out; rw [hxx] at h; injection h with h; exact h.symm
          have h11 : x.op = 13 := by rw [hxe]; rfl
          obtain rfl : a = x.a := by rw [hxe]; rfl
          obtain rfl : c = x.b := by rw [hxe]; rfl
          have hm0 : ¬ m = 0 := by intro e; subst e; simp at h0
          have hrun : Blk.run (.loop x.a x.b t r') q m s1 = r'.run (q + t.flat.length + 2) m (turnsOf (fun m s => t.run (q + 1) m s) x.a x.b.toNat m (beat q m s1)) := by
            simp only [Blk.run]; rw [if_neg hm0]
          have hlen : q + t.flat.length + 2 + r'.flat.length = te := by simp [Blk.flat] at hq2; omega
          have HR := Lib.hid (And.intro (hq4.trans hrun) (And.intro hdr (And.intro hlen hr')))
          have hwt1 : s1.beats.length + 1 + x.b.toNat * t.wt + r'.wt ≤ 1000000000 := by simp only [Blk.wt] at hwt; omega
          have hrl' : r'.flat.length ≤ b.flat.length := by simp [Blk.flat] at hrl; omega
          have htl : t.flat.length < N := by simp [Blk.flat] at hrl; omega
          have hqt' : q + t.flat.length + 2 ≤ te := by omega
          have HEND := Lib.hid hend
          have HDT := Lib.hid hdt
          have HT := Lib.hid ht
          have HH11 := Lib.hid h11
          have HC0 := Lib.hid (show x.c = 0 by rw [hxe]; rfl)
          have hlen2 : q + t.flat.length + 1 < z.l.length := by omega
          clear hq1 hq1' hq2 hq4 hdr hrun hr' hwt hrl HQ hend hdt ht hm0 hxx hxe
          have hop : opB x = true := by simp [opB, h11]
          have e2 := (OR.at0 HOW.out).1 q _ (ownRow_open HX.out hop)
          have hcd := cdAt_get HX.out
          have HOP := Lib.hid (show opB (cdAt z.l q) = true by rw [hcd]; exact hop)
          clear hop hcd h11
          go_wp2_with fail
          go_region_held3 (fun w' => w'.cell? ⟨z.g, 0, none⟩ = some (.pointer (some ⟨z.mg, 0, none⟩)) ∧ w'.cell? ⟨z.mg, 0, none⟩ = some (.slice (some ⟨lb, off, none⟩) z.l.length z.ca) ∧ w'.cell? ⟨lb, off + q * 4, none⟩ = some (.int .i64 x.op) ∧ w'.cell? ⟨lb, off + q * 4 + 1, none⟩ = some (.int .i64 x.a) ∧ w'.cell? ⟨lb, off + q * 4 + 2, none⟩ = some (.int .i64 x.b) ∧ w'.cell? ⟨lb, off + q * 4 + 3, none⟩ = some (.int .i64 x.c) ∧
              w'.cell? ⟨z.mg, 1, none⟩ = some (.slice (some ⟨z.ob, 0, none⟩) z.l.length z.l.length) ∧ w'.cell? ⟨z.ob, q, none⟩ = some (.pointer (some ⟨z.ga q, 0, none⟩))) (first | go_keep | fail) (fail)
          rename_i hh
          clear hh
          have hX5 := HX1.out.trans (Ext.drew (w1.alloc (.cells #[.int .i64 x.op, .int .i64 x.a, .int .i64 x.b, .int .i64 x.c] 50)))
          have HB5 := Lib.hid ((Ext.drew (w1.alloc (.cells #[.int .i64 x.op, .int .i64 x.a, .int .i64 x.b, .int .i64 x.c] 50))).heap_ HBX.out)
          have hS5 := HS1.out.ext hX5 (show z.B ≤ w1.heap.size by omega)
          have hst5 := hst1.trans (StI.of_ext hX5 (by omega))
          generalize (w1.alloc (.cells #[.int .i64 x.op, .int .i64 x.a, .int .i64 x.b, .int .i64 x.c] 50)).drew = w5 at *
          have hs5 := hst5.size
          have d0 := cell_of_heap HB5.out 0
          have d1 := cell_of_heap HB5.out 1
          have d2 := cell_of_heap HB5.out 2
          clear hX5 hst1 c0 e0 e1 e2 l0 l1 l2 l3 n1 n2 n3 n4 hs1
          have e11 : (x.op == 11) = false := by rw [HH11.out]; rfl
          have e13 : (x.op == 13) = true := beq_iff_eq.2 HH11.out
          have hbl1 : (beat q m s1).beats.length = s1.beats.length + 1 := by simp [beat]
          have HTO := Lib.hid (show turnsOf (fun m s => t.run (q + 1) m s) x.a x.b.toNat m (beat q m s1) = turnsOf (fun m s => t.run (q + 1) m s) x.a (x.b.toNat - 0) m (beat q m s1) from rfl)
          have hwt6 : (beat q m s1).beats.length + (x.b.toNat - 0) * t.wt + r'.wt ≤ 1000000000 := by rw [Nat.sub_zero]; omega
          have hcB : ((x.b.toNat : Nat) : Int) = x.b := by omega
          have hcn : x.b.toNat ≤ 4 := by omega
          have HB6 : Hid (w5.heap[w1.heap.size]? = some (.cells #[.int .i64 13, .int .i64 x.a, .int .i64 (x.b.toNat : Int), .int .i64 0] 50 (0, 0))) := by
            have := HB5.out
            rw [HH11.out, HC0.out, ← hcB] at this
            exact this
          have d2' : w5.cell? ⟨w1.heap.size, 2, none⟩ = some (.int .i64 (x.b.toNat : Int)) := by rw [hcB]; exact d2
          generalize beat q m s1 = s0 at *
          generalize x.b.toNat = cn at *
          clear d2 hbl1 hcB
          go_wp2
          obtain ⟨wo, rfl⟩ : ∃ wo : World, wo = wr := ⟨_, rfl⟩
          go_loopw [106, 12] (fun tv lv wl => RLRel w z w1.heap.size x.a (cn : Int) cn t q m s0 r'.wt tv lv wl) (fun tv _ _ => cn - (intOf tv).toNat)
          case atStart => exact ⟨0, m, T1, tc1, U, uc, s0, Nat.zero_le _, rfl, rfl, HM, HTO, hS5, hok1, HBD1, hwt6, HB6, hst5⟩
          case round =>
            clear hS5 hok1 HBD1 hwt6 HB6 hst5 hs5 d0 d1 d2' HTO HB5
            obtain ⟨j, mj, T3, tc3, U3, uc3, sj, hj, rfl, rfl, HMJ, HTJ, hSj, hokj, HBDj, hwtj, HBj, hstj⟩ := hrel
            have d1 : wr.cell? ⟨w1.heap.size, 1, none⟩ = some (.int .i64 x.a) := cell_of_heap HBj.out 1
            have hlj := onesOf_lt HMJ.out n8 x.a sj
            have HLJ := Lib.hid hlj
            have hszj := hstj.size
            clear hlj
            by_cases hjc : j < cn
            · have HTS := Lib.hid (turns_succ (fun m s => t.run (q + 1) m s) x.a hjc mj sj)
              have hwj2 : sj.beats.length + t.wt + (cn - (j + 1)) * t.wt + r'.wt ≤ 1000000000 := by
                have : (cn - j) * t.wt = t.wt + (cn - (j + 1)) * t.wt := by
                  rw [show cn - j = (cn - (j + 1)) + 1 by omega, Nat.add_mul]; omega
                omega
              go_wp2_with fail
              refine (active_c hSj hokj mj HMJ.out x.a ha).mono ?_
              rintro e6 w6 ⟨rfl, hb6⟩
              have hX6 := Ext.of_below hb6
              have hS6 := hSj.ext hX6 (by omega)
              have hst6 := hstj.trans (StI.of_ext hX6 (by omega))
              have hs6 := hst6.size
              have HB6 := Lib.hid (hX6.heap_ HBj.out)
              obtain ⟨-, -, -, g2⟩ := hS6.mach.own_open hql2 HOP.out
              rw [HEND.out] at g2
              clear hX6 hb6 hSj hstj d1
              go_wp2_with fail
              refine (HIH.out t.flat.length htl t (d - 1) (Nat.le_refl _) HT.out w6 z T3 tc3 U3 uc3 sj (q + 1) (onesOf mj x.a sj) (q + t.flat.length + 1) _ _ _ (cEnd :: (r'.flat ++ rest)) hS6 hokj HBDj.out HLJ.out HDT.out (by omega) hl (by omega) (by omega) (by omega) HV.out (by omega) rfl rfl).mono ?_
              rintro e8 w8 ⟨rfl, T4, tc4, U4, uc4, hS8, hst8⟩
              have HB8 := Lib.hid (hst8.code HB6.out)
              have hst9 := hst6.trans hst8
              have hok8 := run_ok t (d - 1) (q + 1) (onesOf mj x.a sj) sj HT.out HLJ.out hokj
              have HBD8 := Lib.hid (run_bd t (q + 1) (onesOf mj x.a sj) sj HBDj.out)
              have hbt := run_beats t (q + 1) (onesOf mj x.a sj) sj
              have hwt8 : (t.run (q + 1) (onesOf mj x.a sj) sj).beats.length + (cn - (j + 1)) * t.wt + r'.wt ≤ 1000000000 := by omega
              clear hbt hst8 hS6 g2
              generalize t.run (q + 1) (onesOf mj x.a sj) sj = s8 at *
              go_wp2
              go_roundw
              case rel => exact ⟨j + 1, onesOf mj x.a sj, T4, tc4, U4, uc4, s8, by omega, by go_num, rfl, HLJ, Lib.hid (by rw [HTJ.out, HTS.out]), hS8, hok8, HBD8, hwt8, HB8, hst9⟩
              case measure => simp [intOf]; omega
            · obtain rfl : j = cn := by omega
              obtain ⟨-, -, -, g2⟩ := hSj.mach.own_open hql2 HOP.out
              rw [HEND.out] at g2
              clear d1
              go_wp2
              go_roundw
              case rel =>
                have hr := HR.out
                exact ⟨r', q + t.flat.length + 2, T3, tc3, U3, uc3, sj, by (congr 1; first | done | omega), Lib.hid ⟨hr.2.1, hr.2.2.1, hr.2.2.2, by rw [hr.1, HTJ.out, Nat.sub_self]; rfl⟩, hqt', hSj, hokj, HBDj, by omega, hrl', hstj⟩
              case measure => simp [intOf]; omega
    · go_wp2
      go_end0
      have hq := HQ.out
      have hrn : r.flat.length = 0 := by omega
      have hr0 : r = .nil := by
        cases r with
        | nil => rfl
        | _ => simp [Blk.flat] at hrn
      subst hr0
      have e : b.run p m s = s1 := hq.2.2.2
      exact ⟨rfl, T, tc, U, uc, by rw [e]; exact hS, hst⟩
end Go.Proofs.Ytfgbbajkdpideaa
