/- Costs of instructions and of runs: both packages. -/
import Derived.Test.YtoiihjbdcjllbaaCostLaw
import Derived.Test.YtoiihjbdcjllbaaLock6
import Derived.Test.YtoiihjbdcjllbaaILock7
import Derived.Test.YtoiihjbdcjllbaaReads
import Derived.Deep.RegionLaw
namespace Go.Proofs.Ytoiihjbdcjllbaa
open Go.RowKit
set_option linter.unusedVariables false
set_option linter.unusedSimpArgs false

set_option maxRecDepth 100000 in
set_option maxHeartbeats 4000000 in
theorem sCodeCost_c (x : Cd) (w : World) :
    Calls Try.prog 41 #[x.val] w fun e w' => e = .returned (.int .i64 (costI x)) ∧ Below w.heap.size w w' := by
  cases hv : cvOk x with
  | false =>
    have HR := Lib.hid (show costI x = -1 by simp [costI, hv])
    unfold Cd.val
    go_enter Try.func41, Try.ntmps41
    go_wp2_with fail
    refine (sCodeValid_c x _).mono ?_
    rintro e w1 ⟨rfl, hb1⟩
    rw [hv]
    go_wp2
    go_ret
    exact ⟨reti (by rw [HR.out]), below_trans (Below.alloc (Below.refl _ _) (Nat.le_refl _) _) (by simp) hb1⟩
  | true =>
    have HR := Lib.hid (show costI x = (costN x : Int) by simp [costI, hv])
    unfold Cd.val
    go_enter Try.func41, Try.ntmps41
    go_wp2_with fail
    refine (sCodeValid_c x _).mono ?_
    rintro e w1 ⟨rfl, hb1⟩
    rw [hv]
    obtain ⟨c0, c1, c2, c3⟩ := cd_kept (x := x) (by simpa using hb1)
    have hbw := below_trans (Below.alloc (Below.refl w.heap.size w) (Nat.le_refl _) (.cells #[.int .i64 x.op, .int .i64 x.a, .int .i64 x.b, .int .i64 x.c] 32)) (by simp) hb1
    go_wp2
    all_goals go_ret
    all_goals refine ⟨reti ?_, hbw⟩
    all_goals (rw [HR.out]; clear HR; unfold costN; grind)

set_option maxRecDepth 100000 in
set_option maxHeartbeats 4000000 in
theorem iCodeCost_c (x : Cd) (w : World) :
    Calls Try.prog 14 #[x.val] w fun e w' => e = .returned (.int .i64 (costI x)) ∧ Below w.heap.size w w' := by
  cases hv : cvOk x with
  | false =>
    have HR := Lib.hid (show costI x = -1 by simp [costI, hv])
    unfold Cd.val
    go_enter Try.func14, Try.ntmps14
    go_wp2_with fail
    refine (iCodeValid_c x _).mono ?_
    rintro e w1 ⟨rfl, hb1⟩
    rw [hv]
    go_wp2
    go_ret
    exact ⟨reti (by rw [HR.out]), below_trans (Below.alloc (Below.refl _ _) (Nat.le_refl _) _) (by simp) hb1⟩
  | true =>
    have HR := Lib.hid (show costI x = (costN x : Int) by simp [costI, hv])
    unfold Cd.val
    go_enter Try.func14, Try.ntmps14
    go_wp2_with fail
    refine (iCodeValid_c x _).mono ?_
    rintro e w1 ⟨rfl, hb1⟩
    rw [hv]
    obtain ⟨c0, c1, c2, c3⟩ := cd_kept (x := x) (by simpa using hb1)
    have hbw := below_trans (Below.alloc (Below.refl w.heap.size w) (Nat.le_refl _) (.cells #[.int .i64 x.op, .int .i64 x.a, .int .i64 x.b, .int .i64 x.c] 32)) (by simp) hb1
    go_wp2
    all_goals go_ret
    all_goals refine ⟨reti ?_, hbw⟩
    all_goals (rw [HR.out]; clear HR; unfold costN; grind)

def CoRel (w : World) (l : List Cd) (mk : Nat) (bs : List (Nat × Nat)) (sv kv : Value) (wr : World) : Prop :=
  ∃ k : Nat, k ≤ bs.length ∧ kv = .int .i64 k ∧ sv = .int .i64 (costOf l mk (bs.take k)) ∧ Below w.heap.size w wr

set_option maxRecDepth 100000 in
set_option maxHeartbeats 4000000 in
theorem cost_c {w : World} {z : IW} {T U : Option Addr} {tc uc : Nat} {s : LS} (h : IR w z T tc U uc s) (mk : Nat) (hmk : mk < 256) (hin : ∀ q ∈ s.beats, q.1 < z.l.length ∧ q.2 < 256) (hlen : s.beats.length ≤ 2560) (hl : z.l.length ≤ 1000000000) (hB : z.B ≤ w.heap.size) (hv : ∀ x ∈ z.l, cvOk x = true) :
    Calls Try.prog 37 #[.pointer (some ⟨z.g, 0, none⟩), .int .i64 mk] w fun e w' => e = .returned (.int .i64 (costOf z.l mk s.beats)) ∧ Below w.heap.size w w' := by
  obtain ⟨c0, -, -, c3, -, -, -⟩ := h.cells
  obtain ⟨d0, -⟩ := h.mach.cells
  have hgl := h.glt
  have hml := h.mach.glt
  have hlst := Lib.hid h.mach.lst
  have htr := Lib.hid h.trc
  have HIN := Lib.hid hin
  have HV := Lib.hid hv
  generalize s.beats = bs at *
  clear h hin hv
  go_enter Try.func37, Try.ntmps37
  go_wp2
  go_loopw [5, 13] (fun sv kv wr => CoRel w z.l mk bs sv kv wr) (fun _ kv _ => bs.length - (intOf kv).toNat)
  case atStart => exact ⟨0, Nat.zero_le _, rfl, rfl, Below.refl _ _⟩
  case round =>
    obtain ⟨k, hk, rfl, rfl, hb⟩ := hrel
    by_cases hlt : k < bs.length
    · have hq : bs[k]? = some (bs[k]) := List.getElem?_eq_getElem hlt
      have HTK := Lib.hid (List.take_succ_eq_append_getElem hlt)
      generalize hqq : bs[k] = q at hq HTK
      obtain ⟨p, mm⟩ := q
      have hmem := List.mem_of_getElem? hq
      obtain ⟨hpl, hmm⟩ := HIN.out _ hmem
      have hlp : (p : Int) < (z.l.length : Int) := by omega
      obtain ⟨lb, lo, y, hzA, hbB, hy, l0, l1, l2, l3⟩ := hlst.out.at_ hpl
      rw [hzA] at d0
      have hyd : cdAt z.l p = y := by unfold cdAt; rw [hy]
      have HC := Lib.hid (show costI y = (costN y : Int) by simp [costI, HV.out y (List.mem_of_getElem? hy)])
      have hc4 := costN_le y
      have HS := Lib.hid (show costOf z.l mk (bs.take (k + 1)) = costOf z.l mk (bs.take k) + if mm &&& mk = 0 then 0 else costN y by rw [HTK.out, costOf_snoc, hyd])
      have hle := costOf_le z.l mk (bs.take k)
      have htl : (bs.take k).length ≤ k := by simp; omega
      have hco : costOf z.l mk (bs.take k) ≤ 10240 := by omega
      generalize costOf z.l mk (bs.take k) = co at *
      obtain ⟨g, rfl, hg1, hg2, -⟩ := OR.at_ htr.out (by omega)
      have hcells := beatsV_get bs k _ hq
      have e0 := (hb.cell (by exact hg2)).trans ((OR.at0 htr.out).1 _ _ hcells.1)
      have e1 := (hb.cell (by exact hg2)).trans ((OR.at0 htr.out).1 _ _ hcells.2)
      have han := bits_and64 mm mk (by omega) (by omega)
      generalize hanm : mm &&& mk = am at *
      have hX := Ext.alloc wr (.cells #[.int .i64 p, .int .i64 mm] 63)
      have hN := heap_alloc_new wr (.cells #[.int .i64 p, .int .i64 mm] 63)
      have n0 := cell_of_heap hN 0
      have n1 := cell_of_heap hN 1
      have hb1 : Below w.heap.size w (wr.alloc (.cells #[.int .i64 p, .int .i64 mm] 63)) := hb.alloc hb.size _
      have hlb : lb < w.heap.size := by omega
      have v0 := (hb1.cell (by exact hgl)).trans c0
      have v1 := (hb1.cell (by exact hml)).trans d0
      have v2 := (hb1.cell (by exact hlb)).trans l0
      have v3 := (hb1.cell (by exact hlb)).trans l1
      have v4 := (hb1.cell (by exact hlb)).trans l2
      have v5 := (hb1.cell (by exact hlb)).trans l3
      have hkI : (k : Int) < (bs.length : Int) := by omega
      have hw2 : IntKind.i64.wrap ((co : Int) + (costN y : Int)) = (co : Int) + (costN y : Int) := IntWalk.i64_in _ (by omega)
      clear hcells hq hqq hmem hyd l0 l1 l2 l3 hy c0 d0 hX hN hanm hle htl
      by_cases ha0 : am = 0
      · subst ha0
        have HS2 := Lib.hid (show costOf z.l mk (bs.take (k + 1)) = co by rw [HS.out, if_pos rfl, Nat.add_zero])
        have hz : (((0 : Nat) : Int) != 0) = false := by simp
        go_wp2
        go_roundw
        case rel => exact ⟨k + 1, by omega, by go_num, by rw [HS2.out], hb1⟩
        case measure => simp [intOf]; omega
      · have HS2 := Lib.hid (show costOf z.l mk (bs.take (k + 1)) = co + costN y by rw [HS.out, if_neg ha0])
        have hz : ((am : Int) != 0) = true := by rw [bne_iff_ne]; omega
        go_wp2_with fail
        generalize wr.alloc (.cells #[.int .i64 p, .int .i64 mm] 63) = W at *
        go_region_law (go_simp; go_at_call 14; refine (iCodeCost_c y _).mono ?_; rintro e w2 ⟨rfl, hb2⟩; rw [HC.out])
        all_goals
          have hb3 := below_trans hb1.drew (Nat.le_refl _) hb2
          go_wp2
          refine ⟨⟨k + 1, by omega, by go_num, by rw [HS2.out]; simp, hb3⟩, ?_⟩
          simp [intOf]; omega
    · obtain rfl : k = bs.length := by omega
      rw [List.take_length]
      go_wp2
      go_ret
      exact ⟨rfl, hb⟩

noncomputable def laneL (l : List Cd) (n : Int) (m : List Int) (k : Nat) : Int := if lockOk l n m then (costOf l (2 ^ k) (traceOf l n m) : Int) else -1

set_option maxRecDepth 100000 in
set_option maxHeartbeats 4000000 in
theorem iTraceCost_c (A Am : Option Addr) (ca cm : Nat) (l : List Cd) (n : Int) (m : List Int) (w : World) (hA : RdC w w.heap.size A l) (hM : RdI w w.heap.size Am m) (hl : l.length ≤ 1000000000) (hml : m.length ≤ 1000000000) :
    Calls Try.prog 10 #[.slice A l.length ca, .int .i64 n, .slice Am m.length cm] w fun e w' => e = .returned (.int .i64 (costL l n m)) ∧ Below w.heap.size w w' := by
  go_enter Try.func10, Try.ntmps10
  go_wp2_with fail
  refine (runLock_c A Am ca cm l n m w hA hM hl hml).mono ?_
  rintro e w1 (⟨hok, hr⟩ | ⟨hok, rfl, hb1⟩)
  · obtain ⟨z, T, tc, U, uc, rfl, hzB, hzl, hzn, hS, hb1⟩ := hr
    have HT := Lib.hid (show costL l n m = (costOf l (2 ^ n.toNat - 1) (lockS l n.toNat m).beats : Int) by simp [costL, traceOf, hok])
    have hin : ∀ q ∈ (lockS l n.toNat m).beats, q.1 < z.l.length ∧ q.2 < 256 := fun q hq => by
      have h1 := trace_in (l := l) (n := n) (m := m) q (by simp [traceOf, hok]; exact hq)
      simp only [lockOk, Bool.and_eq_true] at hok
      have h3 := inR_iff.1 hok.2.1
      have h4 : 2 ^ n.toNat ≤ 2 ^ 8 := Nat.pow_le_pow_right (by decide) (by omega)
      rw [hzl]
      exact ⟨h1.1, by have := h1.2.2; omega⟩
    have hlen := traceOf_len l n m
    rw [show traceOf l n m = (lockS l n.toNat m).beats by simp [traceOf, hok]] at hlen
    have h' := hok
    simp only [lockOk, Bool.and_eq_true] at h'
    obtain ⟨k, rfl⟩ : ∃ k : Nat, n = (k : Int) := ⟨n.toNat, by have := (inR_iff.1 h'.2.1).1; omega⟩
    have hk1 : 1 ≤ k := by have := (inR_iff.1 h'.2.1).1; omega
    have hk8 : k ≤ 8 := by have := (inR_iff.1 h'.2.1).2; omega
    have hpa := pv_all h'.1
    have HALL := Lib.hid (show maskAllI (k : Int) = ((2 ^ k - 1 : Nat) : Int) by
      have : k = 1 ∨ k = 2 ∨ k = 3 ∨ k = 4 ∨ k = 5 ∨ k = 6 ∨ k = 7 ∨ k = 8 := by omega
      rcases this with rfl | rfl | rfl | rfl | rfl | rfl | rfl | rfl <;> decide)
    have hmk : 2 ^ k - 1 < 256 := by
      have : 2 ^ k ≤ 2 ^ 8 := Nat.pow_le_pow_right (by decide) hk8
      omega
    clear hok h'
    go_wp2_with fail
    refine (iMaskAll_c k w1).mono ?_
    rintro e w1' ⟨rfl, rfl⟩
    rw [HALL.out]
    go_wp2_with fail
    refine (cost_c hS (2 ^ k - 1) hmk hin hlen (by rw [hzl]; exact hl) (by rw [hzB]; exact hb1.size) (by rw [hzl]; exact hpa)).mono ?_
    rintro e w2 ⟨rfl, hb2⟩
    rw [hzl]
    have hb3 := below_trans hb1 (Nat.le_refl _) hb2
    have HT2 := HT.out
    rw [Int.toNat_natCast] at HT2
    go_wp2
    go_ret
    exact ⟨reti (by rw [HT2]), hb3⟩
  · have HT := Lib.hid (show costL l n m = -1 by simp [costL, hok])
    clear hok
    go_wp2
    go_ret
    exact ⟨reti (by rw [HT.out]), hb1⟩

set_option maxRecDepth 100000 in
set_option maxHeartbeats 4000000 in
theorem iLaneCost_c (A Am : Option Addr) (ca cm : Nat) (l : List Cd) (k : Nat) (m : List Int) (q : Nat) (w : World) (hA : RdC w w.heap.size A l) (hM : RdI w w.heap.size Am m) (hl : l.length ≤ 1000000000) (hml : m.length ≤ 1000000000) (hok : lockOk l k m = true) (hq : q < k) :
    Calls Try.prog 15 #[.slice A l.length ca, .int .i64 k, .slice Am m.length cm, .int .i64 q] w fun e w' => e = .returned (.int .i64 (costOf l (2 ^ q) (traceOf l k m) : Int)) ∧ Below w.heap.size w w' := by
  have HT := Lib.hid (show traceOf l k m = (lockS l (k : Int).toNat m).beats by simp [traceOf, hok])
  have HOK := Lib.hid hok
  have h' := hok
  simp only [lockOk, Bool.and_eq_true] at h'
  have hk8 : k ≤ 8 := by have := (inR_iff.1 h'.2.1).2; omega
  have hpa := pv_all h'.1
  have hin2 := inR_iff.2 (show (0 : Int) ≤ (q : Int) ∧ (q : Int) ≤ (k : Int) - 1 by omega)
  have HIN := Lib.hid hin2
  have hw1 : IntKind.i64.wrap ((k : Int) - 1) = (k : Int) - 1 := IntWalk.i64_in _ (by omega)
  have hp7 : 2 ^ q ≤ 2 ^ 7 := Nat.pow_le_pow_right (by decide) (by omega)
  have hsh : wrap64 ((2 : Int) ^ q) = ((2 ^ q : Nat) : Int) := by
    have e3 : ((2 : Int) ^ q) = ((2 ^ q : Nat) : Int) := by simp
    rw [e3]
    obtain ⟨t, ht⟩ : ∃ t, 2 ^ q = t := ⟨_, rfl⟩
    rw [ht] at hp7 ⊢
    unfold wrap64; omega
  have hqn : (q : Int) < 64 := by omega
  clear hok h' hin2
  go_enter Try.func15, Try.ntmps15
  go_wp2_with fail
  refine (runLock_c A Am ca cm l k m w hA hM hl hml).mono ?_
  rintro e w1 (⟨hok, hr⟩ | ⟨hok, rfl, hb1⟩)
  · obtain ⟨z, T, tc, U, uc, rfl, hzB, hzl, hzn, hS, hb1⟩ := hr
    have hin : ∀ q ∈ (lockS l (k : Int).toNat m).beats, q.1 < z.l.length ∧ q.2 < 256 := fun q hq => by
      have h1 := trace_in (l := l) (n := k) (m := m) q (by simp [traceOf, hok]; exact hq)
      have h4 : 2 ^ (k : Int).toNat ≤ 2 ^ 8 := Nat.pow_le_pow_right (by decide) (by omega)
      rw [hzl]
      exact ⟨h1.1, by have := h1.2.2; omega⟩
    have hlen := traceOf_len l k m
    rw [HT.out] at hlen
    clear hok
    go_wp2_with fail
    refine (within_c q 0 ((k : Int) - 1) w1).mono ?_
    rintro e w1' ⟨rfl, rfl⟩
    rw [HIN.out]
    go_wp2_with fail
    refine (cost_c hS (2 ^ q) (by omega) hin hlen (by rw [hzl]; exact hl) (by rw [hzB]; exact hb1.size) (by rw [hzl]; exact hpa)).mono ?_
    rintro e w2 ⟨rfl, hb2⟩
    rw [hzl]
    have hb3 := below_trans hb1 (Nat.le_refl _) hb2
    go_wp2
    go_ret
    exact ⟨reti (by rw [HT.out, Int.toNat_natCast]), hb3⟩
  · exact absurd HOK.out (by rw [hok]; decide)

def SCoRel (w : World) (l : List Cd) (mk : Nat) (bs : List (Nat × Nat)) (sv kv : Value) (wr : World) : Prop :=
  ∃ k : Nat, k ≤ bs.length ∧ kv = .int .i64 k ∧ sv = .int .i64 (costOf l mk (bs.take k)) ∧ Below w.heap.size w wr

set_option maxRecDepth 100000 in
set_option maxHeartbeats 4000000 in
theorem sTraceCost_c (A Am : Option Addr) (ca cm : Nat) (l : List Cd) (n : Int) (m : List Int) (w : World) (hA : RdC w w.heap.size A l) (hM : RdI w w.heap.size Am m) (hl : l.length ≤ 1000000000) (hml : m.length ≤ 1000000000) :
    Calls Try.prog 11 #[.slice A l.length ca, .int .i64 n, .slice Am m.length cm] w fun e w' => e = .returned (.int .i64 (costL l n m)) ∧ Below w.heap.size w w' := by
  cases hok : lockOk l n m with
  | false =>
    have HT := Lib.hid (show costL l n m = -1 by simp [costL, hok])
    go_enter Try.func11, Try.ntmps11
    go_wp2_with fail
    refine (sl8Ok_c A Am ca cm l n m w hA hM hl hml).mono ?_
    rintro e w1 ⟨rfl, hb1⟩
    rw [hok]
    go_wp2
    go_ret
    exact ⟨reti HT.out.symm, hb1⟩
  | true =>
    have HT := Lib.hid (show costL l n m = (costOf l (2 ^ n.toNat - 1) (traceOf l n m) : Int) by simp [costL, hok])
    have hin := Lib.hid (trace_in (l := l) (n := n) (m := m))
    have hlen := traceOf_len l n m
    have h' := hok
    simp only [lockOk, Bool.and_eq_true] at h'
    have HV := Lib.hid (pv_all h'.1)
    clear h'
    go_enter Try.func11, Try.ntmps11
    go_wp2_with fail
    refine (sl8Ok_c A Am ca cm l n m w hA hM hl hml).mono ?_
    rintro e w1 ⟨rfl, hb1⟩
    rw [hok]
    clear hok
    go_wp2_with fail
    refine (sLockTrace_c A Am ca cm l n m w1 ((hA.below hb1).more hb1.size) ((hM.below hb1).more hb1.size) hl hml).mono ?_
    rintro e w3 ⟨T, tc, rfl, ht3, hb3⟩
    have hA3 := hA.below (below_trans hb1 (Nat.le_refl _) hb3)
    replace hb3 := below_trans hb1 (Nat.le_refl _) hb3
    have hpos : ∀ q ∈ traceOf l n m, ¬ (q.2 &&& (2 ^ n.toNat - 1) = 0) := fun q hq => by
      have := hin.out q hq
      rw [Nat.and_two_pow_sub_one_eq_mod, Nat.mod_eq_of_lt this.2.2]; omega
    have HPOS := Lib.hid hpos
    have HRT := Lib.hid ht3.reads
    clear hpos
    generalize traceOf l n m = bs at *
    generalize 2 ^ n.toNat - 1 = mk at *
    clear hb1 ht3 hA hM
    go_wp2
    go_loopw [7, 9] (fun sv kv wr => SCoRel w3 l mk bs sv kv wr) (fun _ kv _ => bs.length - (intOf kv).toNat)
    case atStart => exact ⟨0, Nat.zero_le _, rfl, rfl, Below.refl _ _⟩
    case round =>
      obtain ⟨k, hk, rfl, rfl, hb⟩ := hrel
      by_cases hlt : k < bs.length
      · have hq : bs[k]? = some (bs[k]) := List.getElem?_eq_getElem hlt
        have HTK := Lib.hid (List.take_succ_eq_append_getElem hlt)
        generalize hqq : bs[k] = q at hq HTK
        have hmem := List.mem_of_getElem? hq
        have hnz := HPOS.out _ hmem
        obtain ⟨p, mm⟩ := q
        have hpl : p < l.length := (hin.out _ hmem).1
        obtain ⟨b, off, y, rfl, hbB, hy, l0, l1, l2, l3⟩ := (hA3.below (hb.mono (by have := hb3.size; omega))).at_ hpl
        have hyd : cdAt l p = y := by unfold cdAt; rw [hy]
        have HC := Lib.hid (show costI y = (costN y : Int) by simp [costI, HV.out y (List.mem_of_getElem? hy)])
        have hc4 := costN_le y
        have HS := Lib.hid (show costOf l mk (bs.take (k + 1)) = costOf l mk (bs.take k) + costN y by rw [HTK.out, costOf_snoc, if_neg hnz, hyd])
        have hle := costOf_le l mk (bs.take k)
        have htl : (bs.take k).length ≤ k := by simp; omega
        have hco : costOf l mk (bs.take k) ≤ 10240 := by omega
        generalize costOf l mk (bs.take k) = co at *
        obtain ⟨g, go, rfl, hg, hc⟩ := HRT.out.2 (by omega)
        have hcells := beatCells_get bs k _ hq
        have e0 := (hb.cell (by exact hg)).trans (hc _ _ hcells.1)
        have hpI : (p : Int) < (l.length : Int) := by omega
        have hkI : (k : Int) < (bs.length : Int) := by omega
        have hw2 : IntKind.i64.wrap ((co : Int) + (costN y : Int)) = (co : Int) + (costN y : Int) := IntWalk.i64_in _ (by omega)
        clear hcells hq hqq hmem hyd hy hle htl hnz hc
        go_wp2_with fail
        refine (sCodeCost_c y _).mono ?_
        rintro e w5 ⟨rfl, hb5⟩
        rw [HC.out]
        have hb6 := below_trans hb (Nat.le_refl _) hb5
        go_wp2
        go_roundw
        case rel => exact ⟨k + 1, by omega, by go_num, by rw [HS.out]; simp, hb6⟩
        case measure => simp [intOf]; omega
      · obtain rfl : k = bs.length := by omega
        rw [List.take_length]
        go_wp2
        go_ret
        exact ⟨reti HT.out.symm, below_trans hb3 (Nat.le_refl _) hb⟩
end Go.Proofs.Ytoiihjbdcjllbaa
