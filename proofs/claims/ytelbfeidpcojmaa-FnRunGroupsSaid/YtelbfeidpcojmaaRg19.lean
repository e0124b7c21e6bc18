/- Part 19 of what the claim needs. -/
import Derived.Test.YtelbfeidpcojmaaRg1
import Derived.Test.YtelbfeidpcojmaaRg2
import Derived.Test.YtelbfeidpcojmaaRg9
import Derived.Test.YtelbfeidpcojmaaRg12
import Derived.Test.YtelbfeidpcojmaaRg13
import Derived.Test.YtelbfeidpcojmaaRg17
import Derived.Test.YtelbfeidpcojmaaRg18
import Derived.ProofKit
import Derived.OpenShut
import Derived.Carry
import Derived.Deep.Slices
import Derived.ChangeArms
namespace Go.Proofs.Ytelbfeidpcojmaa
open Go.RowKit
set_option linter.unusedVariables false
set_option linter.unusedSimpArgs false

theorem CM.appI {w w' : World} {B n b2 k c2 : Nat} {z : Gm} {c : Cw} {A : Option Addr} {xs : List Value} (h : CM (fun _ => True) w B n z c) (ht : OR w b2 97 2 A k c2 xs) (hg : w.grownBy w' (Value.ownBlock (.slice A k c2))) : CM (fun _ => True) w' B n z c :=
  ⟨OR.kept h.row hg (own_sep h.row ht (by decide)), fun k hk => OR.kept (h.regs k hk) hg (own_sep (h.regs k hk) ht (by decide)), fun k hk => OR.kept (h.turns k hk) hg (own_sep (h.turns k hk) ht (by decide)), OR.kept h.mem hg (own_sep h.mem ht (by decide)), h.rm, h.rr, h.tm, h.tr, h.tt, trivial, trivial, fun _ _ => trivial, fun _ _ _ _ => trivial, fun _ _ => trivial⟩
theorem blk_appI {w w' : World} {b2 k c2 g : Nat} {A : Option Addr} {xs : List Value} {cs : Array Value} {t : TypeId} (ht : OR w b2 97 2 A k c2 xs) (hg : w.grownBy w' (Value.ownBlock (.slice A k c2))) (hb : w.heap[g]? = some (.cells cs t (0, 0))) (hne : 97 ≠ t) : w'.heap[g]? = some (.cells cs t (0, 0)) :=
  (hg.block g (lt_of_block hb) (fun e => own_ne ht hb hne e.symm)).trans hb
theorem CS.appI {w w' : World} {B n mg cb b2 k c2 ca ob : Nat} {A : Option Addr} {l : List Cd} {ga : Nat → Nat} {z : Gm} {c : Cw} {T : Option Addr} {xs : List Value} (h : CS (fun _ => True) w B n mg cb A ca l ob ga z c) (hb : Below B w w') (ht : OR w b2 97 2 T k c2 xs) (hg : w.grownBy w' (Value.ownBlock (.slice T k c2))) : CS (fun _ => True) w' B n mg cb A ca l ob ga z c :=
  ⟨h.mach.keep hb (fun _ _ hk => blk_appI ht hg hk (by decide)) (fun _ _ hk => blk_appI ht hg hk (by decide)) (fun _ _ hk => blk_appI ht hg hk (by decide)), h.cm.appI ht hg, h.ok, blk_appI ht hg h.blk (by decide), h.cB, Nat.le_trans h.hB hg.size⟩

def IlRel (w : World) (n mg cb : Nat) (A : Option Addr) (ca : Nat) (l : List Cd) (ob : Nat) (ga : Nat → Nat) (sch : Nat → List Nat) (c : Cw) (T : Nat) (g : Nat) (tv : Value) (wr : World) : Prop :=
  ∃ (i : Nat) (z : Gm) (At : Option Addr) (ct : Nat) (bs : List (Nat × Nat)), i + g = T ∧ bs.length ≤ i ∧ tv = .slice At bs.length ct ∧ OR wr w.heap.size 97 2 At bs.length ct (beatsV bs) ∧ CS (fun _ => True) wr w.heap.size n mg cb A ca l ob ga z (runC l sch c i) ∧ Below w.heap.size w wr
def IlP (w : World) (R : List Int) (e : Ending) (w' : World) : Prop :=
  ∃ (A : Option Addr) (c : Nat) (T : Value), e = .returned (.tuple #[.slice A R.length c, T]) ∧ OwI w' w.heap.size A R.length c R ∧ Below w.heap.size w w'

noncomputable def leastM (l : List Cd) (n : Int) (m : List Int) : List Int := if lockOk l n m then (runE l (allSch n.toNat) (Cw.start n.toNat m)).mem else []
theorem lock_parts {l : List Cd} {n : Int} {m : List Int} (h : lockOk l n m = true) : ∃ N : Nat, n = (N : Int) ∧ 1 ≤ N ∧ N ≤ 8 ∧ pv l = true ∧ wordsOk m ∧ 1 ≤ m.length ∧ m.length ≤ 32 := by
  simp only [lockOk, Bool.and_eq_true] at h
  obtain ⟨h1, h2, h3⟩ := h
  obtain ⟨n1, n8⟩ := inR_iff.1 h2
  obtain ⟨N, rfl⟩ := Int.eq_ofNat_of_zero_le (show 0 ≤ n by omega)
  obtain ⟨w1, w2, w3⟩ := memOk_iff.1 h3
  exact ⟨N, rfl, by omega, by omega, h1, w1, w2, w3⟩
theorem maskAll_nat {N : Nat} (h1 : 1 ≤ N) (h8 : N ≤ 8) : maskAllI (N : Int) = ((2 ^ N - 1 : Nat) : Int) := by
  unfold maskAllI
  rw [if_pos (inR_iff.2 (by omega)), Int.toNat_natCast]
  have := Nat.two_pow_pos N
  have e : ((2 ^ N : Nat) : Int) = (2 : Int) ^ N := by simp
  omega

set_option maxRecDepth 100000 in
set_option maxHeartbeats 8000000 in
theorem runLeast_c (A M : Option Addr) (ca cm : Nat) (l : List Cd) (N : Nat) (m : List Int) (w : World) (hA : RdC w w.heap.size A l) (hM : RdI w w.heap.size M m)
    (N1 : 1 ≤ N) (N8 : N ≤ 8) (hp : pv l = true) (hw : wordsOk m) (hm1 : 1 ≤ m.length) (hm32 : m.length ≤ 32) :
    Calls Try.prog 57 #[.slice A l.length ca, .int .i64 N, .slice M m.length cm] w (IlP w (runE l (allSch N) (Cw.start N m)).mem) := by
  have HA := Lib.hid hA
  have hsch := allSch_ok N8
  have hl40 := (pv_iff.1 hp).1
  have h0 : CwOk l N (Cw.start N m) := CwOk.start hw
  have hn0 := start_nrm (l := l) N1 m
  obtain ⟨T1, T2, T3⟩ := run_T hp N8 hsch h0 hn0
  have HT1 := Lib.hid T1
  have HT2 := Lib.hid T2
  have HRO := Lib.hid (fun i => run_ok' hp N8 hsch h0 hn0 i)
  have HRE : Hid (runE l (allSch N) (Cw.start N m) = runC l (allSch N) (Cw.start N m) (endT l (allSch N) (Cw.start N m))) := Lib.hid rfl
  have hTb : endT l (allSch N) (Cw.start N m) ≤ 80000 := by omega
  have hc0 : runC l (allSch N) (Cw.start N m) 0 = Cw.start N m := rfl
  have HC0 := Lib.hid hc0
  have hmc : M = none → cm = 0 := fun e => by
    obtain ⟨b, off, e2, _⟩ := hM.2 (by omega)
    rw [e] at e2; cases e2
  have HMC := Lib.hid hmc
  have HAP := Lib.hid (fun i => all_part N8 i)
  have HAL := Lib.hid (fun i => show allSch N i = lanesOf (2 ^ N - 1) from rfl)
  clear hsch h0 hn0 T1 T2 T3 hc0 hw hmc
  have HSE := Lib.hid (fun i => show runC l (allSch N) (Cw.start N m) (i + 1) = stepG l (runC l (allSch N) (Cw.start N m) i) (allSch N i) from rfl)
  generalize hTe : endT l (allSch N) (Cw.start N m) = T at *
  clear hTe
  generalize hse : allSch N = sch at *
  clear hse
  go_enter Try.func57, Try.ntmps57
  go_wp2_with fail
  refine (newCrowd_c M cm m N w hM ⟨N1, N8⟩ ⟨hm1, hm32⟩ HMC.out).mono ?_
  rintro e w3 ⟨z, rfl, hC, b3⟩
  have hs3 := b3.size
  have hxA := Ext.alloc w3 (.cells #[.slice (some ⟨z.lb, 0, none⟩) N z.lc, .slice (some ⟨z.mb, 0, none⟩) m.length z.mc] 58)
  have hNA := heap_alloc_new w3 (.cells #[.slice (some ⟨z.lb, 0, none⟩) N z.lc, .slice (some ⟨z.mb, 0, none⟩) m.length z.mc] 58)
  have b4 := b3.alloc b3.size (.cells #[.slice (some ⟨z.lb, 0, none⟩) N z.lc, .slice (some ⟨z.mb, 0, none⟩) m.length z.mc] 58)
  have hA4 := (hA.below b4).more b4.size
  have HC4 := Lib.hid (hC.ext hxA)
  have HB4 := Lib.hid (b4)
  have HN4 := Lib.hid hNA
  have hcb : w.heap.size ≤ w3.heap.size := hs3
  have hw2 : w.heap.size ≤ w.heap.size := Nat.le_refl _
  clear hxA hNA b3 b4 hC hM hA hs3
  go_wp2_with fail
  generalize w3.alloc (.cells #[.slice (some ⟨z.lb, 0, none⟩) N z.lc, .slice (some ⟨z.mb, 0, none⟩) m.length z.mc] 58) = w4 at *
  generalize w3.heap.size = cb at *
  refine (newMachine_c A ca l w4 hA4 hp).mono ?_
  rintro e w5 ⟨mg, ob, ga, rfl, hmk, b5⟩
  have hs5 := b5.size
  have hC5 := HC4.out.ext (Ext.of_below b5)
  have hN5 := (Ext.of_below b5).heap_ HN4.out
  have HB5 := Lib.hid (below_trans HB4.out (Nat.le_refl _) b5)
  have HCS : Hid (CS (fun _ => True) w5 w.heap.size N mg cb A ca l ob ga z (runC l sch (Cw.start N m) 0)) := Lib.hid (by
    rw [HC0.out]
    have hr := HRO.out 0
    rw [HC0.out] at hr
    have hC6 : CM (fun _ => True) w5 w.heap.size N z (Cw.start N m) := ⟨OR.mono hC5.row hw2, fun k hk => OR.mono (hC5.regs k hk) hw2, fun k hk => OR.mono (hC5.turns k hk) hw2, OR.mono hC5.mem hw2, hC5.rm, hC5.rr, hC5.tm, hC5.tr, hC5.tt, trivial, trivial, fun _ _ => trivial, fun _ _ _ _ => trivial, fun _ _ => trivial⟩
    have hB4s := HB4.out.size
    exact ⟨⟨hmk.blk, by have := hmk.gB; omega, OR.mono hmk.own hB4s, fun p hp' ho' => ⟨by have := (hmk.bks p hp' ho').1; omega, (hmk.bks p hp' ho').2⟩, HA.out.below HB5.out⟩, hC6, hr.1, hN5, hcb, HB5.out.size⟩)
  clear b5 hC5 hN5 HC4 HN4 HB4 hA4 hmk hs5 hw2 hcb
  have hc0m : (Cw.start N m).mem.length = m.length := rfl
  generalize Cw.start N m = c0 at *
  have HCM := Lib.hid hc0m
  clear hc0m
  go_wp2_with fail
  have HT0 := Lib.hid (OR.nil_ w5 w.heap.size 97 2)
  go_loopg [10] T (fun g tv wr => IlRel w N mg cb A ca l ob ga sch c0 T g tv wr)
  case atStart => exact ⟨0, z, none, 0, [], Nat.zero_add _, Nat.le_refl _, rfl, HT0.out, HCS.out, HB5.out⟩
  case round =>
    obtain ⟨i, zi, At, ct, bs, hi, hbi, rfl, hTi, hCi, hb⟩ := hrel
    have HCi := Lib.hid hCi
    have HBi := Lib.hid hb
    have HTi := Lib.hid hTi
    have hbs80 : bs.length ≤ 80000 := by omega
    clear HCS HB5 HT0 hCi hb hTi
    by_cases hlt : i < T
    · have hov := HT2.out i hlt
      have hll := least_lt (HRO.out i).1 (HRO.out i).2.1 hov
      rw [← all_part N8 i, show allSch N i = lanesOf (2 ^ N - 1) from rfl] at hll
      go_wp2_with fail
      refine (isOver_c HCi.out hp N8).mono ?_
      rintro e w6 ⟨rfl, hx6⟩
      rw [hov]
      have HC6 := Lib.hid (HCi.out.ext hx6)
      have HB6 := Lib.hid (HBi.out.trans (hx6.below.mono (by have := HBi.out.size; exact this)))
      have HT6 := Lib.hid (HTi.out.ext hx6)
      clear hx6 hov HCi HBi HTi
      go_wp2_with fail
      refine (iMaskAll_c N w6).mono ?_
      rintro e w7 ⟨rfl, rfl⟩
      have hmaI : maskAllI (N : Int) = ((2 ^ N - 1 : Nat) : Int) := maskAll_nat N1 N8
      rw [hmaI]
      have h2N : 2 ^ N ≤ 2 ^ 8 := Nat.pow_le_pow_right (by decide) N8
      have hmlt : 2 ^ N - 1 < 65536 := by
        have h256 : (2 : Nat) ^ 8 = 256 := rfl
        omega
      have HMN := Lib.hid (fun k (hk : k ∈ lanesOf (2 ^ N - 1)) => (allSch_mem N8 (i := i)).1 hk)
      clear hmaI h2N
      have HLSs := Lib.hid ((HSE.out i).trans (by rw [HAL.out i, stepG_eq]))
      generalize 2 ^ N - 1 = ma at *
      go_wp2_with fail
      refine (least_c HC6.out hp N8 hmlt HMN.out).mono ?_
      rintro e w8 ⟨rfl, hx8⟩
      have HC8 := Lib.hid (HC6.out.ext hx8)
      have HB8 := Lib.hid (HB6.out.trans (hx8.below.mono (by have := HB6.out.size; exact this)))
      have HT8 := Lib.hid (HT6.out.ext hx8)
      have hmk : maskL (amongL l (runC l sch c0 i) (lanesOf ma)) < 256 := maskL_lt (fun k hk => (lanesOf_mem.1 (among_sub hk).1).1)
      have HMK := Lib.hid (fun k (hk : k ∈ lanesOf (maskL (amongL l (runC l sch c0 i) (lanesOf ma)))) => HMN.out k (by rw [lanes_among] at hk; exact (among_sub hk).1))
      have HMLN : Hid (1 ≤ (runC l sch c0 i).mem.length ∧ (runC l sch c0 i).mem.length ≤ 32) := Lib.hid (by have h1 := (HRO.out i).2.2; rw [HCM.out] at h1; omega)
      have hAr := HA.out.below HB8.out
      obtain ⟨ab, ao, x, hAE, habB, hx, a0, -, -, -⟩ := hAr.at_ hll
      subst hAE
      clear hx8 HC6 HB6 HT6 hx hAr
      generalize hce : runC l sch c0 i = ci at *
      generalize maskL (amongL l ci (lanesOf ma)) = mk at *
      generalize leastP l ci (lanesOf ma) = at' at *
      have hatI : (at' : Int) < (l.length : Int) := by omega
      by_cases h12 : x.op = 12
      · have ht12 : (x.op != 12) = false := by simp [h12]
        clear h12
        have HC9 := HC8
        have HB9' := HB8
        have HT9 := HT8
        go_wp2_with fail
        refine (stepAll_c HC9.out hp N8 (show mk < 65536 by omega) HMK.out HMLN.out).mono ?_
        rintro e w9 ⟨rfl, z9, hC9, hz9, hst9⟩
        have HC10 := Lib.hid hC9
        have HB10 := Lib.hid (HB9'.out.trans hst9.bel)
        have HT10 := Lib.hid (OR.byType HT9.out (fun g cs hg => hst9.byt g cs _ (by decide) (by decide) hg))
        clear hC9 hz9 hst9
        go_wp2
        go_roundg (T - (i + 1))
        case measure => omega
        case rel => exact ⟨i + 1, z9, _, _, bs, by omega, by first | omega | (simp; omega), by first | rfl | simp, HT10.out, by rw [HLSs.out]; exact HC10.out, HB10.out⟩
      · have ht12 : (x.op != 12) = true := by simp [h12]
        by_cases h14 : x.op = 14
        · have ht14 : (x.op != 14) = false := by simp [h14]
          clear h12 h14
          have HC9 := HC8
          have HB9' := HB8
          have HT9 := HT8
          go_wp2_with fail
          refine (stepAll_c HC9.out hp N8 (show mk < 65536 by omega) HMK.out HMLN.out).mono ?_
          rintro e w9 ⟨rfl, z9, hC9, hz9, hst9⟩
          have HC10 := Lib.hid hC9
          have HB10 := Lib.hid (HB9'.out.trans hst9.bel)
          have HT10 := Lib.hid (OR.byType HT9.out (fun g cs hg => hst9.byt g cs _ (by decide) (by decide) hg))
          clear hC9 hz9 hst9
          go_wp2
          go_roundg (T - (i + 1))
          case measure => omega
          case rel => exact ⟨i + 1, z9, _, _, bs, by omega, by first | omega | (simp; omega), by first | rfl | simp, HT10.out, by rw [HLSs.out]; exact HC10.out, HB10.out⟩
        · have ht14 : (x.op != 14) = true := by simp [h14]
          clear h12 h14
          have hXa := Ext.alloc w8 (.cells #[.int .i64 at', .int .i64 mk] 97)
          have HTa := Lib.hid (HT8.out.ext hXa)
          have HXa := Lib.hid hXa
          have hsa : w.heap.size ≤ (w8.alloc (.cells #[.int .i64 at', .int .i64 mk] 97)).heap.size := Nat.le_trans HB8.out.size hXa.size
          clear hXa
          go_wp2_with (at_builtin; refine app_row 82 97 _ 2 16 Try.underlying82 infoBeat rfl (by decide) (by decide) rfl _ _ rfl w.heap.size At bs.length ct _ HTa.out rfl w8.heap.size 1 1 [.int .i64 at', .int .i64 mk] rfl rfl ?hc ?h1 ?hn ?hb ?_)
          case hc =>
            intro j u hu
            match j, hu with
            | 0, hu => simp at hu; subst hu; simp [go_sem]
            | 1, hu => simp at hu; subst hu; simp [go_sem]
          case h1 => intro u hu; simp at hu; rcases hu with rfl | rfl <;> rfl
          case hn => omega
          case hb => exact hsa
          intro A2 c2 w9' ho2 hg2
          have HB9' := Lib.hid (below_gr (HB8.out.trans (HXa.out.below.mono HB8.out.size)) hsa HTa.out (Nat.le_refl _) hg2)
          have HC9 := Lib.hid ((HC8.out.ext HXa.out).appI (below_gr (Below.refl _ _) hsa HTa.out (Nat.le_refl _) hg2) HTa.out hg2)
          have HT9 : Hid (OR w9' w.heap.size 97 2 A2 (bs ++ [(at', mk)]).length c2 (beatsV (bs ++ [(at', mk)]))) := Lib.hid (by rw [beatsV_append, List.length_append]; exact ho2)
          clear ho2 hg2 HTa HXa a0
          go_wp2_with fail
          refine (stepAll_c HC9.out hp N8 (show mk < 65536 by omega) HMK.out HMLN.out).mono ?_
          rintro e w9 ⟨rfl, z9, hC9, hz9, hst9⟩
          have HC10 := Lib.hid hC9
          have HB10 := Lib.hid (HB9'.out.trans hst9.bel)
          have HT10 := Lib.hid (OR.byType HT9.out (fun g cs hg => hst9.byt g cs _ (by decide) (by decide) hg))
          clear hC9 hz9 hst9
          go_wp2
          go_roundg (T - (i + 1))
          case measure => omega
          case rel => exact ⟨i + 1, z9, _, _, (bs ++ [(at', mk)]), by omega, by first | omega | (simp; omega), by first | rfl | simp, HT10.out, by rw [HLSs.out]; exact HC10.out, HB10.out⟩
    · obtain rfl : i = T := by omega
      have hov := HT1.out
      go_wp2_with fail
      refine (isOver_c HCi.out hp N8).mono ?_
      rintro e w6 ⟨rfl, hx6⟩
      rw [hov]
      have HC6 := Lib.hid (HCi.out.ext hx6)
      have HB6 := Lib.hid (HBi.out.trans (hx6.below.mono (by have := HBi.out.size; exact this)))
      obtain ⟨-, c1⟩ := HC6.out.cells
      clear hx6 hov
      have hme := (HRO.out i).2.2
      rw [HCM.out] at hme
      rw [hme] at c1
      have HME := Lib.hid hme
      clear hme
      go_wp2
      go_ret2
      refine ⟨some ⟨zi.mb, 0, none⟩, zi.mc, .slice At bs.length ct, ?_, .inr ?_, HB6.out⟩
      · rw [HRE.out, HME.out]
        rfl
      rw [HRE.out, HME.out]
      have h1 := HC6.out.cm.mem
      rw [HME.out] at h1
      exact h1

set_option maxRecDepth 100000 in
set_option maxHeartbeats 8000000 in
theorem iRunLeast_c (A M : Option Addr) (ca cm : Nat) (l : List Cd) (n : Int) (m : List Int) (w : World) (hA : RdC w w.heap.size A l) (hM : RdI w w.heap.size M m) (hl : l.length ≤ 1000000000) (hml : m.length ≤ 1000000000) :
    Calls Try.prog 24 #[.slice A l.length ca, .int .i64 n, .slice M m.length cm] w (GmP w (leastM l n m)) := by
  have HCR := Lib.hid (canRun_c A M ca cm l n m w hA hM hl hml)
  cases hlo : lockOk l n m with
  | false =>
    have HV := Lib.hid (show leastM l n m = [] by simp [leastM, hlo])
    go_enter Try.func24, Try.ntmps24
    go_wp2_with fail
    refine HCR.out.mono ?_
    rintro e w1 ⟨rfl, b1⟩
    rw [hlo]
    have HB := Lib.hid b1
    clear b1
    go_wp2
    go_ret
    exact ⟨none, 0, by rw [HV.out]; rfl, .inl ⟨by rw [HV.out]; rfl, HV.out⟩, HB.out⟩
  | true =>
    obtain ⟨N, rfl, N1, N8, hp, hw, hm1, hm32⟩ := lock_parts hlo
    have HV := Lib.hid (show leastM l N m = (runE l (allSch N) (Cw.start N m)).mem by simp [leastM, hlo])
    have HRC := Lib.hid (fun W a b => runLeast_c A M ca cm l N m W a b N1 N8 hp hw hm1 hm32)
    unfold GmP
    rw [HV.out]
    unfold IlP at HRC
    generalize (runE l (allSch N) (Cw.start N m)).mem = R at *
    clear hp hw HV
    go_enter Try.func24, Try.ntmps24
    go_wp2_with fail
    refine HCR.out.mono ?_
    rintro e w1 ⟨rfl, b1⟩
    rw [hlo]
    have hA1 := (hA.below b1).more b1.size
    have hM1 := (hM.below b1).more b1.size
    have HB1 := Lib.hid b1
    clear b1 hlo
    go_wp2_with fail
    refine (HRC.out w1 hA1 hM1).mono ?_
    rintro e w3 ⟨A', c', T, rfl, hO, hb3⟩
    have HO := Lib.hid (show OwI w3 w.heap.size A' R.length c' R from hO.imp id (fun h => OR.mono h HB1.out.size))
    have HB3 := Lib.hid (below_trans HB1.out (Nat.le_refl _) hb3)
    clear hO hb3 HRC hA1 hM1
    go_wp2
    go_ret
    exact ⟨A', c', rfl, HO.out, HB3.out⟩


theorem empty_ret {w w1 : World} {R : List Int} (hR : R = []) (hB : Below w.heap.size w w1) : GmP w R (.returned (.slice (some ⟨w1.heap.size, 0, none⟩) 0 0)) (w1.alloc (.cells #[] 3)) :=
  ⟨some ⟨w1.heap.size, 0, none⟩, 0, by rw [hR]; rfl, .inr (by rw [hR]; exact OI.empty_ w1 w.heap.size hB.size), hB.alloc hB.size _⟩

set_option maxRecDepth 100000 in
set_option maxHeartbeats 8000000 in
theorem sRunOrder_c (A M X : Option Addr) (ca cm cx : Nat) (l : List Cd) (n : Int) (m xs : List Int) (w : World) (hA : RdC w w.heap.size A l) (hM : RdI w w.heap.size M m) (hX : RdI w w.heap.size X xs) (hl : l.length ≤ 1000000000) (hml : m.length ≤ 1000000000) (hxl : xs.length ≤ 1000000000) :
    Calls Try.prog 30 #[.slice A l.length ca, .int .i64 n, .slice M m.length cm, .slice X xs.length cx] w (GmP w (orderM l n m xs)) := by
  have HSP := Lib.hid (fun W a => sProgramValid_c A ca l W a hl)
  have HSO := Lib.hid (fun W a => sOrderValid_c X cx xs n W a hxl)
  have HSM := Lib.hid (fun W a => sMemoryValid_c M cm m W a hml)
  cases hp : pv l with
  | false =>
    have HV := Lib.hid (show orderM l n m xs = [] by simp [orderM, orderOk, lockOk, hp])
    go_enter Try.func30, Try.ntmps30
    go_wp2_with fail
    refine (HSP.out w hA).mono ?_
    rintro e w1 ⟨rfl, b1⟩
    rw [hp]
    have HB := Lib.hid b1
    clear b1
    go_wp2
    go_ret
    exact empty_ret HV.out HB.out
  | true =>
    cases ho : ordOk xs n with
    | false =>
      have HV := Lib.hid (show orderM l n m xs = [] by simp [orderM, orderOk, ho])
      go_enter Try.func30, Try.ntmps30
      go_wp2_with fail
      refine (HSP.out w hA).mono ?_
      rintro e w1 ⟨rfl, b1⟩
      rw [hp]
      have HB := Lib.hid b1
      have hX1 := (hX.below b1).more b1.size
      clear b1
      go_wp2_with fail
      refine (HSO.out w1 hX1).mono ?_
      rintro e w1' ⟨rfl, rfl⟩
      rw [ho]
      go_wp2
      go_ret
      exact empty_ret HV.out HB.out
    | true =>
      cases hm : memOk m with
      | false =>
        have HV := Lib.hid (show orderM l n m xs = [] by simp [orderM, orderOk, lockOk, hm])
        go_enter Try.func30, Try.ntmps30
        go_wp2_with fail
        refine (HSP.out w hA).mono ?_
        rintro e w1 ⟨rfl, b1⟩
        rw [hp]
        have HB := Lib.hid b1
        have hX1 := (hX.below b1).more b1.size
        have hM1 := (hM.below b1).more b1.size
        clear b1
        go_wp2_with fail
        refine (HSO.out w1 hX1).mono ?_
        rintro e w1' ⟨rfl, rfl⟩
        rw [ho]
        go_wp2_with fail
        refine (HSM.out w1 hM1).mono ?_
        rintro e w1' ⟨rfl, rfl⟩
        rw [hm]
        go_wp2
        go_ret
        exact empty_ret HV.out HB.out
      | true =>
        have hin : inR n 1 8 = true := by
          have h := ho
          simp only [ordOk, Bool.and_eq_true] at h
          exact h.1
        have hok : orderOk l n m xs = true := by simp [orderOk, lockOk, hp, hin, hm, ho]
        obtain ⟨N, rfl, N1, N8, x1, x40, hxs, hsch, _, hw, hm1, hm32⟩ := order_in hok
        rw [show orderM l N m xs = (runE l (orSch xs) (Cw.start N m)).mem by simp [orderM, hok]]
        exact sRunOrder_ok A M X ca cm cx l N m xs w hA hM hX hm ho N1 N8 x1 x40 hxs hsch hp hw hm1 hm32

set_option maxRecDepth 100000 in
set_option maxHeartbeats 8000000 in
theorem sRunGroups_c (A M X : Option Addr) (ca cm cx : Nat) (l : List Cd) (n s : Int) (m xs : List Int) (w : World) (hA : RdC w w.heap.size A l) (hM : RdI w w.heap.size M m) (hX : RdI w w.heap.size X xs) (hl : l.length ≤ 1000000000) (hml : m.length ≤ 1000000000) (hxl : xs.length ≤ 1000000000) :
    Calls Try.prog 9 #[.slice A l.length ca, .int .i64 n, .int .i64 s, .slice M m.length cm, .slice X xs.length cx] w (GmP w (groupsM l n s m xs)) := by
  have HSP := Lib.hid (fun W a b => sl8Ok_c A M ca cm l n m W a b hl hml)
  have HSO := Lib.hid (fun W a => sOrderValid_c X cx xs (grMany n s) W a hxl)
  have HSG := Lib.hid (fun W => sGroupsMany_c n s W)
  cases hlo : lockOk l n m with
  | false =>
    have HV := Lib.hid (show groupsM l n s m xs = [] by simp [groupsM, groupsOk, hlo])
    go_enter Try.func9, Try.ntmps9
    go_wp2_with fail
    refine (HSP.out w hA hM).mono ?_
    rintro e w1 ⟨rfl, b1⟩
    rw [hlo]
    have HB := Lib.hid b1
    clear b1
    go_wp2
    go_ret
    exact empty_ret HV.out HB.out
  | true =>
    cases ho : ordOk xs (grMany n s) with
    | false =>
      have HV := Lib.hid (show groupsM l n s m xs = [] by simp [groupsM, groupsOk, ho])
      rw [ho] at HSO
      generalize grMany n s = gm at *
      clear ho
      go_enter Try.func9, Try.ntmps9
      go_wp2_with fail
      refine (HSP.out w hA hM).mono ?_
      rintro e w1 ⟨rfl, b1⟩
      rw [hlo]
      have HB := Lib.hid b1
      have hX1 := (hX.below b1).more b1.size
      clear b1
      go_wp2_with fail
      refine (HSG.out w1).mono ?_
      rintro e w1' ⟨rfl, rfl⟩
      go_wp2_with fail
      refine (HSO.out w1 hX1).mono ?_
      rintro e w1' ⟨rfl, rfl⟩
      go_wp2
      go_ret
      exact empty_ret HV.out HB.out
    | true =>
      have hok : groupsOk l n s m xs = true := by simp [groupsOk, hlo, ho]
      obtain ⟨N, S, G, rfl, rfl, hG, N1, N8, S1, S8, x1, x40, hxs, hsch, hp, hw, hm1, hm32⟩ := groups_in hok
      rw [show groupsM l N S m xs = (runE l (grSch N S xs) (Cw.start N m)).mem by simp [groupsM, hok]]
      exact sRunGroups_ok A M X ca cm cx l N S m xs w hA hM hX hlo ho S1 S8 N1 N8 x1 x40 hxs hsch hp hw hm1 hm32

set_option maxRecDepth 100000 in
set_option maxHeartbeats 8000000 in
theorem sRunLeast_c (A M : Option Addr) (ca cm : Nat) (l : List Cd) (n : Int) (m : List Int) (w : World) (hA : RdC w w.heap.size A l) (hM : RdI w w.heap.size M m) (hl : l.length ≤ 1000000000) (hml : m.length ≤ 1000000000) :
    Calls Try.prog 26 #[.slice A l.length ca, .int .i64 n, .slice M m.length cm] w (GmP w (leastM l n m)) := by
  have HSP := Lib.hid (fun W a b => sl8Ok_c A M ca cm l n m W a b hl hml)
  cases hlo : lockOk l n m with
  | false =>
    have HV := Lib.hid (show leastM l n m = [] by simp [leastM, hlo])
    go_enter Try.func26, Try.ntmps26
    go_wp2_with fail
    refine (HSP.out w hA hM).mono ?_
    rintro e w1 ⟨rfl, b1⟩
    rw [hlo]
    have HB := Lib.hid b1
    clear b1
    go_wp2
    go_ret
    exact empty_ret HV.out HB.out
  | true =>
    obtain ⟨N, rfl, N1, N8, hp, hw, hm1, hm32⟩ := lock_parts hlo
    have HV := Lib.hid (show leastM l N m = (runE l (allSch N) (Cw.start N m)).mem by simp [leastM, hlo])
    have HRC := Lib.hid (fun W a b => sl17Run_c A M ca cm l N m W a b N1 N8 hp hw hm1 hm32)
    unfold GmP
    rw [HV.out]
    unfold SlP at HRC
    generalize (runE l (allSch N) (Cw.start N m)).mem = R at *
    clear hp hw HV
    go_enter Try.func26, Try.ntmps26
    go_wp2_with fail
    refine (HSP.out w hA hM).mono ?_
    rintro e w1 ⟨rfl, b1⟩
    rw [hlo]
    have hA1 := (hA.below b1).more b1.size
    have hM1 := (hM.below b1).more b1.size
    have HB1 := Lib.hid b1
    clear b1 hlo
    go_wp2_with fail
    refine (HRC.out w1 hA1 hM1).mono ?_
    rintro e w3 ⟨L, nn, lc, A', c', T, rfl, hO, hb3⟩
    have HO := Lib.hid (show OI w3 w.heap.size A' R.length c' R from OR.mono hO HB1.out.size)
    have HB3 := Lib.hid (below_trans HB1.out (Nat.le_refl _) hb3)
    have HX := Lib.hid (Ext.alloc w3 (.cells #[.slice L nn lc, .slice A' R.length c'] 58))
    clear hO hb3 HRC hA1 hM1
    go_wp2
    go_ret
    exact ⟨A', c', rfl, .inr (OR.ext HO.out HX.out), HB3.out.trans (HX.out.below.mono HB3.out.size)⟩


theorem groupsM_len (l : List Cd) (n s : Int) (m xs : List Int) : (groupsM l n s m xs).length ≤ m.length := by
  unfold groupsM
  split
  · rename_i h
    obtain ⟨N, S, G, rfl, rfl, hG, N1, N8, S1, S8, x1, x40, hxs, hsch, hp, hw, hm1, hm32⟩ := groups_in h
    have := runE_mem hp N8 hsch (CwOk.start (l := l) (n := N) hw) (start_nrm N1 m)
    simp only [Int.toNat_natCast]
    rw [this]
    exact Nat.le_refl _
  · simp
theorem orderM_len (l : List Cd) (n : Int) (m xs : List Int) : (orderM l n m xs).length ≤ m.length := by
  unfold orderM
  split
  · rename_i h
    obtain ⟨N, rfl, N1, N8, x1, x40, hxs, hsch, hp, hw, hm1, hm32⟩ := order_in h
    have := runE_mem hp N8 hsch (CwOk.start (l := l) (n := N) hw) (start_nrm N1 m)
    simp only [Int.toNat_natCast]
    rw [this]
    exact Nat.le_refl _
  · simp
theorem leastM_len (l : List Cd) (n : Int) (m : List Int) : (leastM l n m).length ≤ m.length := by
  unfold leastM
  split
  · rename_i h
    obtain ⟨N, rfl, N1, N8, hp, hw, hm1, hm32⟩ := lock_parts h
    have := runE_mem hp N8 (allSch_ok N8) (CwOk.start (l := l) (n := N) hw) (start_nrm N1 m)
    simp only [Int.toNat_natCast]
    rw [this]
    exact Nat.le_refl _
  · simp


set_option maxRecDepth 100000 in
set_option maxHeartbeats 4000000 in
theorem fnExactRunGroups_c (w : World) (A0 : Option Addr) (c0 : Nat) (l : List Cd) (hA0 : RdC w w.heap.size A0 l) (hL0 : l.length ≤ 9223372036854775807) (k : Int) (_ : (Lit.int .i64 k).wf = true) (s : Int) (_ : (Lit.int .i64 s).wf = true) (A3 : Option Addr) (c3 : Nat) (m : List Int) (hA3 : RdI w w.heap.size A3 m) (hL3 : m.length ≤ 9223372036854775807) (A4 : Option Addr) (c4 : Nat) (xs : List Int) (hA4 : RdI w w.heap.size A4 xs) (hL4 : xs.length ≤ 9223372036854775807) :
    Calls Try.prog 3 #[.slice A0 l.length c0, .int .i64 k, .int .i64 s, .slice A3 m.length c3, .slice A4 xs.length c4] w fun e w' => e = .returned (.bool true) ∧ Below w.heap.size w w' := by
  by_cases hbig3 : 1048576 < m.length
  · go_enter Try.func3, Try.ntmps3
    go_wp2
    go_ret
    exact ⟨rfl, Below.refl _ _⟩
  · have hn3 : m.length ≤ 1048576 := by omega
    clear hbig3
    by_cases hbig4 : 1048576 < xs.length
    · go_enter Try.func3, Try.ntmps3
      go_wp2
      go_ret
      exact ⟨rfl, Below.refl _ _⟩
    · have hn4 : xs.length ≤ 1048576 := by omega
      clear hbig4
      by_cases hbig0 : 1048576 < l.length
      · go_enter Try.func3, Try.ntmps3
        go_wp2_with fail
        refine (szCodeS_c A0 l.length c0 1048576 _ hL0 (by omega) (by omega)).mono ?_
        rintro e w' ⟨rfl, rfl⟩
        rw [if_pos (by omega)]
        go_wp2
        go_ret
        exact ⟨rfl, Below.refl _ _⟩
      · have hn0 : l.length ≤ 1048576 := by omega
        clear hbig0
        have hV : (groupsM l k s m xs).length ≤ 1000000000 := by have := groupsM_len l k s m xs; omega
        go_enter Try.func3, Try.ntmps3
        go_wp2_with fail
        refine (szCodeS_c A0 l.length c0 1048576 _ hL0 (by omega) (by omega)).mono ?_
        rintro e w' ⟨rfl, rfl⟩
        rw [if_neg (by omega)]
        go_wp2_with fail
        refine (toCodeS_c A0 c0 l _ (hA0) (by omega)).mono ?_
        rintro e w1 ⟨At1, rfl, ot1, b1⟩
        have hB := b1
        have s1 := b1.size
        replace ot1 : OwC _ _ _ _ _ l := .inr ot1
        go_wp2_with fail
        refine (toIntS_c A3 c3 m _ ((hA3.below hB).more hB.size) (by omega)).mono ?_
        rintro e w2 ⟨At2, rfl, ot2, b2⟩
        replace hB := below_trans hB (Nat.le_refl _) b2
        replace ot1 := ot1.below b2 (Nat.le_refl _)
        have s2 := b2.size
        replace ot2 : OwI _ _ _ _ _ m := .inr ot2
        go_wp2_with fail
        refine (toIntS_c A4 c4 xs _ ((hA4.below hB).more hB.size) (by omega)).mono ?_
        rintro e w3 ⟨At3, rfl, ot3, b3⟩
        replace hB := below_trans hB (Nat.le_refl _) b3
        replace ot1 := ot1.below b3 (Nat.le_refl _)
        replace ot2 := ot2.below b3 (Nat.le_refl _)
        have s3 := b3.size
        replace ot3 : OwI _ _ _ _ _ xs := .inr ot3
        go_wp2_with fail
        refine (sRunGroups_c At1 At2 At3 _ _ _ l k s m xs _ ot1.rd ot2.rd ot3.rd (by omega) (by omega) (by omega)).mono ?_
        rintro e w4 ⟨Aw, cw, rfl, ow, b4⟩
        replace hB := below_trans hB (Nat.le_refl _) b4
        replace ot1 := ot1.below b4 (Nat.le_refl _)
        replace ot2 := ot2.below b4 (Nat.le_refl _)
        replace ot3 := ot3.below b4 (Nat.le_refl _)
        have s4 := b4.size
        clear ot1
        clear ot2
        clear ot3
        have kw := ow.blk
        go_wp2_with fail
        refine (toCodeS_c A0 c0 l _ ((hA0.below hB).more hB.size) (by omega)).mono ?_
        rintro e w5 ⟨At5, rfl, ot5, b5⟩
        replace hB := below_trans hB (Nat.le_refl _) b5
        replace ow := ow.below b5 (Nat.le_refl _)
        have s5 := b5.size
        replace ot5 : OwC _ _ _ _ _ l := .inr ot5
        have kot5 := ot5.blk
        go_wp2_with fail
        refine (toIntS_c A3 c3 m _ ((hA3.below hB).more hB.size) (by omega)).mono ?_
        rintro e w6 ⟨At6, rfl, ot6, b6⟩
        replace hB := below_trans hB (Nat.le_refl _) b6
        replace ow := ow.below b6 (Nat.le_refl _)
        replace ot5 := ot5.below b6 (Nat.le_refl _)
        have s6 := b6.size
        replace ot6 : OwI _ _ _ _ _ m := .inr ot6
        have kot6 := ot6.blk
        go_wp2_with fail
        refine (toIntS_c A4 c4 xs _ ((hA4.below hB).more hB.size) (by omega)).mono ?_
        rintro e w7 ⟨At7, rfl, ot7, b7⟩
        replace hB := below_trans hB (Nat.le_refl _) b7
        replace ow := ow.below b7 (Nat.le_refl _)
        replace ot5 := ot5.below b7 (Nat.le_refl _)
        replace ot6 := ot6.below b7 (Nat.le_refl _)
        have s7 := b7.size
        replace ot7 : OwI _ _ _ _ _ xs := .inr ot7
        have kot7 := ot7.blk
        go_wp2_with fail
        refine (iRunGroups_c At5 At6 At7 _ _ _ l k s m xs _ ot5.rd ot6.rd ot7.rd (by omega) (by omega) (by omega)).mono ?_
        rintro e w8 ⟨Ag, cg, rfl, og, b8⟩
        replace hB := below_trans hB (Nat.le_refl _) b8
        replace ow := ow.below b8 (Nat.le_refl _)
        replace ot5 := ot5.below b8 (Nat.le_refl _)
        replace ot6 := ot6.below b8 (Nat.le_refl _)
        replace ot7 := ot7.below b8 (Nat.le_refl _)
        have s8 := b8.size
        have kg := og.blk
        go_wp2_with fail
        refine (eqIntS_c Ag Aw _ _ (groupsM l k s m xs) (groupsM l k s m xs) _ og.rd ow.rd (by omega) (by omega)).mono ?_
        rintro e w9 ⟨rfl, b9⟩
        rw [intsEq_refl]
        replace hB := below_trans hB (Nat.le_refl _) b9
        replace ow := ow.below b9 (Nat.le_refl _)
        replace ot5 := ot5.below b9 (Nat.le_refl _)
        replace ot6 := ot6.below b9 (Nat.le_refl _)
        replace ot7 := ot7.below b9 (Nat.le_refl _)
        replace og := og.below b9 (Nat.le_refl _)
        have s9 := b9.size
        go_wp2_with fail
        refine (toCodeS_c A0 c0 l _ ((hA0.below hB).more hB.size) (by omega)).mono ?_
        rintro e w10 ⟨At10, rfl, ot10, b10⟩
        replace hB := below_trans hB (Nat.le_refl _) b10
        replace ow := ow.below b10 (Nat.le_refl _)
        replace ot5 := ot5.below b10 (Nat.le_refl _)
        replace ot6 := ot6.below b10 (Nat.le_refl _)
        replace ot7 := ot7.below b10 (Nat.le_refl _)
        replace og := og.below b10 (Nat.le_refl _)
        have s10 := b10.size
        replace ot10 : OwC _ _ _ _ _ l := .inr ot10
        go_wp2_with fail
        refine (eqCodeS_c At5 At10 _ _ l l _ ot5.rd ot10.rd (by omega) (by omega)).mono ?_
        rintro e w11 ⟨rfl, b11⟩
        rw [cdsEq_refl]
        replace hB := below_trans hB (Nat.le_refl _) b11
        replace ow := ow.below b11 (Nat.le_refl _)
        replace ot5 := ot5.below b11 (Nat.le_refl _)
        replace ot6 := ot6.below b11 (Nat.le_refl _)
        replace ot7 := ot7.below b11 (Nat.le_refl _)
        replace og := og.below b11 (Nat.le_refl _)
        replace ot10 := ot10.below b11 (Nat.le_refl _)
        have s11 := b11.size
        clear ot10
        go_wp2_with fail
        refine (toIntS_c A3 c3 m _ ((hA3.below hB).more hB.size) (by omega)).mono ?_
        rintro e w12 ⟨At12, rfl, ot12, b12⟩
        replace hB := below_trans hB (Nat.le_refl _) b12
        replace ow := ow.below b12 (Nat.le_refl _)
        replace ot5 := ot5.below b12 (Nat.le_refl _)
        replace ot6 := ot6.below b12 (Nat.le_refl _)
        replace ot7 := ot7.below b12 (Nat.le_refl _)
        replace og := og.below b12 (Nat.le_refl _)
        have s12 := b12.size
        replace ot12 : OwI _ _ _ _ _ m := .inr ot12
        go_wp2_with fail
        refine (eqIntS_c At6 At12 _ _ m m _ ot6.rd ot12.rd (by omega) (by omega)).mono ?_
        rintro e w13 ⟨rfl, b13⟩
        rw [intsEq_refl]
        replace hB := below_trans hB (Nat.le_refl _) b13
        replace ow := ow.below b13 (Nat.le_refl _)
        replace ot5 := ot5.below b13 (Nat.le_refl _)
        replace ot6 := ot6.below b13 (Nat.le_refl _)
        replace ot7 := ot7.below b13 (Nat.le_refl _)
        replace og := og.below b13 (Nat.le_refl _)
        replace ot12 := ot12.below b13 (Nat.le_refl _)
        have s13 := b13.size
        clear ot12
        go_wp2_with fail
        refine (toIntS_c A4 c4 xs _ ((hA4.below hB).more hB.size) (by omega)).mono ?_
        rintro e w14 ⟨At14, rfl, ot14, b14⟩
        replace hB := below_trans hB (Nat.le_refl _) b14
        replace ow := ow.below b14 (Nat.le_refl _)
        replace ot5 := ot5.below b14 (Nat.le_refl _)
        replace ot6 := ot6.below b14 (Nat.le_refl _)
        replace ot7 := ot7.below b14 (Nat.le_refl _)
        replace og := og.below b14 (Nat.le_refl _)
        have s14 := b14.size
        replace ot14 : OwI _ _ _ _ _ xs := .inr ot14
        go_wp2_with fail
        refine (eqIntS_c At7 At14 _ _ xs xs _ ot7.rd ot14.rd (by omega) (by omega)).mono ?_
        rintro e w15 ⟨rfl, b15⟩
        rw [intsEq_refl]
        replace hB := below_trans hB (Nat.le_refl _) b15
        replace ow := ow.below b15 (Nat.le_refl _)
        replace ot5 := ot5.below b15 (Nat.le_refl _)
        replace ot6 := ot6.below b15 (Nat.le_refl _)
        replace ot7 := ot7.below b15 (Nat.le_refl _)
        replace og := og.below b15 (Nat.le_refl _)
        replace ot14 := ot14.below b15 (Nat.le_refl _)
        have s15 := b15.size
        clear ot14
        go_wp2_with fail
        refine (markC_c At5 _ _ _ _ l _ ot5 (by omega) (by omega) (by omega)).mono ?_
        rintro e w16 ⟨rfl, _, m16⟩
        have s16 := m16.size
        replace hB := m16.below hB (by omega) (by omega)
        replace ow := m16.extI ow ((Apart.mk kw kot5 (by omega)).symm)
        replace ot6 := m16.extI ot6 (Apart.mk kot5 kot6 (by omega))
        replace ot7 := m16.extI ot7 (Apart.mk kot5 kot7 (by omega))
        replace og := m16.extI og (Apart.mk kot5 kg (by omega))
        clear ot5
        go_wp2_with fail
        refine (markI_c At6 _ _ _ _ m _ ot6 (by omega) (by omega) (by omega)).mono ?_
        rintro e w17 ⟨rfl, _, m17⟩
        have s17 := m17.size
        replace hB := m17.below hB (by omega) (by omega)
        replace ow := m17.extI ow ((Apart.mk kw kot6 (by omega)).symm)
        replace ot7 := m17.extI ot7 (Apart.mk kot6 kot7 (by omega))
        replace og := m17.extI og (Apart.mk kot6 kg (by omega))
        clear ot6
        go_wp2_with fail
        refine (markI_c At7 _ _ _ _ xs _ ot7 (by omega) (by omega) (by omega)).mono ?_
        rintro e w18 ⟨rfl, _, m18⟩
        have s18 := m18.size
        replace hB := m18.below hB (by omega) (by omega)
        replace ow := m18.extI ow ((Apart.mk kw kot7 (by omega)).symm)
        replace og := m18.extI og (Apart.mk kot7 kg (by omega))
        clear ot7
        go_wp2_with fail
        refine (eqIntS_c Ag Aw _ _ (groupsM l k s m xs) (groupsM l k s m xs) _ og.rd ow.rd (by omega) (by omega)).mono ?_
        rintro e w19 ⟨rfl, b19⟩
        rw [intsEq_refl]
        replace hB := below_trans hB (Nat.le_refl _) b19
        replace ow := ow.below b19 (Nat.le_refl _)
        replace og := og.below b19 (Nat.le_refl _)
        have s19 := b19.size
        go_wp2_with fail
        refine (markI_c Ag _ _ _ _ (groupsM l k s m xs) _ og (by omega) (by omega) (by omega)).mono ?_
        rintro e w20 ⟨rfl, rm, m20⟩
        have s20 := m20.size
        replace hB := m20.below hB (by omega) (by omega)
        replace ow := m20.extI ow (Apart.symm (Apart.mk kw kg (by omega)))
        clear og
        go_wp2_with fail
        refine (heldIntS_c Ag _ _ _ 1 _ rm (by omega) (by omega) (by omega)).mono ?_
        rintro e w21 ⟨rfl, b21⟩
        replace hB := below_trans hB (Nat.le_refl _) b21
        replace ow := ow.below b21 (Nat.le_refl _)
        have s21 := b21.size
        replace rm := (rm.below b21).more b21.size
        go_wp2_with fail
        refine (toCodeS_c A0 c0 l _ ((hA0.below hB).more hB.size) (by omega)).mono ?_
        rintro e w22 ⟨At22, rfl, ot22, b22⟩
        replace hB := below_trans hB (Nat.le_refl _) b22
        replace ow := ow.below b22 (Nat.le_refl _)
        have s22 := b22.size
        replace ot22 : OwC _ _ _ _ _ l := .inr ot22
        replace rm := (rm.below b22).more b22.size
        go_wp2_with fail
        refine (toIntS_c A3 c3 m _ ((hA3.below hB).more hB.size) (by omega)).mono ?_
        rintro e w23 ⟨At23, rfl, ot23, b23⟩
        replace hB := below_trans hB (Nat.le_refl _) b23
        replace ow := ow.below b23 (Nat.le_refl _)
        replace ot22 := ot22.below b23 (Nat.le_refl _)
        have s23 := b23.size
        replace ot23 : OwI _ _ _ _ _ m := .inr ot23
        replace rm := (rm.below b23).more b23.size
        go_wp2_with fail
        refine (toIntS_c A4 c4 xs _ ((hA4.below hB).more hB.size) (by omega)).mono ?_
        rintro e w24 ⟨At24, rfl, ot24, b24⟩
        replace hB := below_trans hB (Nat.le_refl _) b24
        replace ow := ow.below b24 (Nat.le_refl _)
        replace ot22 := ot22.below b24 (Nat.le_refl _)
        replace ot23 := ot23.below b24 (Nat.le_refl _)
        have s24 := b24.size
        replace ot24 : OwI _ _ _ _ _ xs := .inr ot24
        replace rm := (rm.below b24).more b24.size
        go_wp2_with fail
        refine (iRunGroups_c At22 At23 At24 _ _ _ l k s m xs _ ot22.rd ot23.rd ot24.rd (by omega) (by omega) (by omega)).mono ?_
        rintro e w25 ⟨Ah, ch, rfl, oh, b25⟩
        replace hB := below_trans hB (Nat.le_refl _) b25
        replace ow := ow.below b25 (Nat.le_refl _)
        replace ot22 := ot22.below b25 (Nat.le_refl _)
        replace ot23 := ot23.below b25 (Nat.le_refl _)
        replace ot24 := ot24.below b25 (Nat.le_refl _)
        have s25 := b25.size
        replace rm := (rm.below b25).more b25.size
        clear ot22
        clear ot23
        clear ot24
        go_wp2_with fail
        refine (eqIntS_c Ah Aw _ _ (groupsM l k s m xs) (groupsM l k s m xs) _ oh.rd ow.rd (by omega) (by omega)).mono ?_
        rintro e w26 ⟨rfl, b26⟩
        rw [intsEq_refl]
        replace hB := below_trans hB (Nat.le_refl _) b26
        replace ow := ow.below b26 (Nat.le_refl _)
        replace oh := oh.below b26 (Nat.le_refl _)
        have s26 := b26.size
        replace rm := (rm.below b26).more b26.size
        go_wp2_with fail
        refine (heldIntS_c Ag _ _ _ 1 _ rm (by omega) (by omega) (by omega)).mono ?_
        rintro e w27 ⟨rfl, b27⟩
        replace hB := below_trans hB (Nat.le_refl _) b27
        replace ow := ow.below b27 (Nat.le_refl _)
        replace oh := oh.below b27 (Nat.le_refl _)
        have s27 := b27.size
        replace rm := (rm.below b27).more b27.size
        go_wp2
        go_ret
        exact ⟨rfl, hB⟩

open Go.ChangeShapes Go.WideShapes Go.RowKit Go.Deep

theorem below_trodAll {H : Type} {enc : TypeId × Value → H} {P : Program} (hl : laidOutB P = true) {W W' : World} (hb : Below W.heap.size W W') :
    ∀ (ts : List TypeId) (vs : List Value) (ds : List (DataW H)) (ps : List MemPlace), ts.all (fun t => P.readableRec t && decide (t < P.types.size)) = true →
      DataW.TrodAll enc P W 0 (fun _ => true) true ts vs ds ps → (∀ x ∈ ps, x.block < W.heap.size) →
      DataW.TrodAll enc P W' 0 (fun b => decide (b < W.heap.size)) true ts vs ds ps
  | [], vs, ds, ps, _, h, _ => by
    obtain ⟨rfl, rfl, rfl⟩ := trodAll_nil h
    exact trodAll_mk0
  | t :: ts, vs, ds, ps, ht, h, hlt => by
    obtain ⟨v, vs', d, ds', p, q, rfl, rfl, rfl, h0, h1⟩ := trodAll_cons h
    simp only [List.all_cons, Bool.and_eq_true, decide_eq_true_eq] at ht
    exact trodAll_cons_mk (Below.trod hl ht.1.1 ht.1.2 h0 hb (fun x hx => hlt x (by simp [hx])))
      (below_trodAll hl hb ts vs' ds' q (by simpa using ht.2) h1 (fun x hx => hlt x (by simp [hx])))

section
variable {H : Type} {enc : TypeId × Value → H} {P : Program} {w : World}

theorem one_int {spare : Nat → Bool} {held : Bool} {base n : Nat} {t : TypeId} {k : IntKind} {v : Value} {y : DataW H × List MemPlace} (ht : P.underlying t = some (.int k)) (h : DataW.trod enc P w base spare held n t [v] = some y) : ∃ z, v = .int k z := by
  obtain ⟨z, e, _⟩ := DataW.trod_int ht h
  exact ⟨z, by simpa using e⟩

theorem cell_at {a : Addr} {v : Value} (h : w.cell? (a.add 0) = some v) : ∃ b off, a = ⟨b, off, none⟩ ∧ b < w.heap.size := by
  have hs := World.cell?_spot h
  have hb := World.block_lt_of_cell? w _ h
  rw [block_of_add] at hb
  obtain ⟨b, off, s⟩ := a
  have : s = none := by simpa [Addr.add] using hs
  subst this
  exact ⟨b, off, rfl, hb⟩

/-- A slice of one-cell numbers that came in. -/
theorem open_row1 {t e : TypeId} {k : IntKind} {r : Reach} {b0 : Nat} {v : Value} {d : DataW H} {p : List MemPlace} (ht : P.underlying t = some (.slice e)) (he : P.underlying e = some (.int k)) (hc : P.cellsOf e = 1)
    (hv : Value.okWide P w r b0 t v) (h : DataW.Trod enc P w 0 (fun _ => true) true t v d p) :
    ∃ (A : Option Addr) (c : Nat) (xs : List Int), v = .slice A xs.length c ∧ Reads w w.heap.size 1 A xs.length (xs.map (.int k)) ∧ xs.length ≤ 9223372036854775807 := by
  obtain ⟨a0, len, cap, rfl⟩ := okWide_slice ht hv
  obtain ⟨fuel, hf⟩ := h
  rcases open_ints ht he hc hf with ⟨hcs, hx⟩ | ⟨a, len', cap', zs, hcs, _, hl, hm, hz, hx, hcell, hwz⟩
  · simp [Value.cells] at hcs
    obtain ⟨rfl, rfl, rfl⟩ := hcs
    exact ⟨none, 0, [], rfl, Reads.none_, by simp⟩
  · simp [Value.cells] at hcs
    obtain ⟨rfl, rfl, rfl⟩ := hcs
    simp only [if_true] at hz
    unfold maxLen at hm
    have hlen : (zs.take len).length = len := by rw [List.length_take]; omega
    refine ⟨some a, cap, zs.take len, by rw [hlen], ⟨by simp, fun hn => ?_⟩, by omega⟩
    rw [hlen] at hn
    obtain ⟨b, off, rfl, hb⟩ := cell_at (hcell 0 (by omega))
    refine ⟨b, off, rfl, hb, fun j u hu => ?_⟩
    rw [List.getElem?_map, List.getElem?_take] at hu
    split at hu
    · have h1 := hcell j (by omega)
      rw [add_lit] at h1
      rw [h1, ← hu, List.getElem?_eq_getElem (by omega)]
      simp [List.getD, List.getElem?_eq_getElem (show j < zs.length by omega)]
    · simp at hu

/-- A slice of one-cell numbers that came in. -/
theorem open_bytes {t e : TypeId} {k : IntKind} {r : Reach} {b0 : Nat} {v : Value} {d : DataW H} {p : List MemPlace} (ht : P.underlying t = some (.slice e)) (he : P.underlying e = some (.int k)) (hc : P.cellsOf e = 1)
    (hv : Value.okWide P w r b0 t v) (h : DataW.Trod enc P w 0 (fun _ => true) true t v d p) :
    ∃ (A : Option Addr) (c : Nat) (xs : List Int), v = .slice A xs.length c ∧ Reads w w.heap.size 1 A xs.length (xs.map (.int k)) ∧ xs.length ≤ 9223372036854775807 ∧ (∀ x ∈ xs, (Lit.int k x).wf = true) ∧ xs.length ≤ c := by
  obtain ⟨a0, len, cap, rfl⟩ := okWide_slice ht hv
  obtain ⟨fuel, hf⟩ := h
  rcases open_ints ht he hc hf with ⟨hcs, hx⟩ | ⟨a, len', cap', zs, hcs, _, hl, hm, hz, hx, hcell, hwz⟩
  · simp [Value.cells] at hcs
    obtain ⟨rfl, rfl, rfl⟩ := hcs
    exact ⟨none, 0, [], rfl, Reads.none_, by simp, by simp, by simp⟩
  · simp [Value.cells] at hcs
    obtain ⟨rfl, rfl, rfl⟩ := hcs
    simp only [if_true] at hz
    unfold maxLen at hm
    have hlen : (zs.take len).length = len := by rw [List.length_take]; omega
    refine ⟨some a, cap, zs.take len, by rw [hlen], ⟨by simp, fun hn => ?_⟩, by omega, fun x hx => hwz x (List.mem_of_mem_take hx), by omega⟩
    rw [hlen] at hn
    obtain ⟨b, off, rfl, hb⟩ := cell_at (hcell 0 (by omega))
    refine ⟨b, off, rfl, hb, fun j u hu => ?_⟩
    rw [List.getElem?_map, List.getElem?_take] at hu
    split at hu
    · have h1 := hcell j (by omega)
      rw [add_lit] at h1
      rw [h1, ← hu, List.getElem?_eq_getElem (by omega)]
      simp [List.getD, List.getElem?_eq_getElem (show j < zs.length by omega)]
    · simp at hu

theorem wf_byte {x : Int} (h : (Lit.int .u8 x).wf = true) : 0 ≤ x ∧ x ≤ 255 := by
  simp [Lit.wf, IntKind.min, IntKind.max, IntKind.signed, IntKind.bits] at h
  omega

theorem row_of {n : Nat} {p : Nat → Value → Prop} (h : ∀ i, i < n → ∃ v, p i v) : ∃ f : Nat → Value, ∀ i, i < n → p i (f i) := by
  classical
  exact ⟨fun i => if hi : i < n then (h i hi).choose else .bool false, fun i hi => by simp only [dif_pos hi]; exact (h i hi).choose_spec⟩

/-- A slice of instructions that came in. -/
theorem open_codes {t e : TypeId} {f0 f1 f2 f3 : Field} {r : Reach} {b0 : Nat} {v : Value} {d : DataW H} {p : List MemPlace} (ht : P.underlying t = some (.slice e)) (he : P.underlying e = some (.struct #[f0, f1, f2, f3])) (hc : P.cellsOf e = 4)
    (e0 : P.underlying f0.type = some (.int .i64)) (e1 : P.underlying f1.type = some (.int .i64)) (e2 : P.underlying f2.type = some (.int .i64)) (e3 : P.underlying f3.type = some (.int .i64))
    (o0 : f0.offset = 0 ∧ P.cellsOf f0.type = 1) (o1 : f1.offset = 1 ∧ P.cellsOf f1.type = 1) (o2 : f2.offset = 2 ∧ P.cellsOf f2.type = 1) (o3 : f3.offset = 3 ∧ P.cellsOf f3.type = 1)
    (hv : Value.okWide P w r b0 t v) (h : DataW.Trod enc P w 0 (fun _ => true) true t v d p) :
    ∃ (A : Option Addr) (c : Nat) (l : List Cd), v = .slice A l.length c ∧ RdC w w.heap.size A l ∧ l.length ≤ 9223372036854775807 := by
  obtain ⟨a0, len, cap, rfl⟩ := okWide_slice ht hv
  obtain ⟨fuel, hf⟩ := h
  rcases open_slice ht hf with ⟨hcs, hx⟩ | ⟨a, len', cap', m, n, D, Pl, hcs, _, hl, hm, hmm, hx, hi⟩
  · simp [Value.cells] at hcs
    obtain ⟨rfl, rfl, rfl⟩ := hcs
    exact ⟨none, 0, [], rfl, Reads.none_, by simp⟩
  · simp [Value.cells] at hcs
    obtain ⟨rfl, rfl, rfl⟩ := hcs
    simp only [if_true] at hmm
    subst hmm
    unfold maxLen at hm
    rw [hc] at hi
    have key : ∀ i, i < len → ∃ x : Cd, ∀ j u, (cdCells x)[j]? = some u → w.cell? (a.add (i * 4 + j)) = some u := by
      intro i hil
      obtain ⟨cs', h1, h2⟩ := hi i (by omega)
      obtain ⟨_, hlen, hcell⟩ := World.cells?_some h1
      obtain ⟨xs, n', _, _, _, hxl, hg⟩ := DataW.trod_struct he h2
      match cs', hlen with
      | [c0, c1, c2, c3], _ =>
        match xs, hxl with
        | [y0, y1, y2, y3], _ =>
          have g0 := hg 0 f0 rfl
          have g1 := hg 1 f1 rfl
          have g2 := hg 2 f2 rfl
          have g3 := hg 3 f3 rfl
          rw [o0.1, o0.2] at g0
          rw [o1.1, o1.2] at g1
          rw [o2.1, o2.2] at g2
          rw [o3.1, o3.2] at g3
          obtain ⟨z0, rfl⟩ := one_int e0 (v := c0) (by simpa using g0)
          obtain ⟨z1, rfl⟩ := one_int e1 (v := c1) (by simpa using g1)
          obtain ⟨z2, rfl⟩ := one_int e2 (v := c2) (by simpa using g2)
          obtain ⟨z3, rfl⟩ := one_int e3 (v := c3) (by simpa using g3)
          refine ⟨⟨z0, z1, z2, z3⟩, fun j u hu => ?_⟩
          have hj : j < 4 := by
            have := (List.getElem?_eq_some_iff.1 hu).1
            simpa [cdCells] using this
          have h3 := hcell j hj
          rw [add_of_add] at h3
          rw [h3]
          exact hu
    have key2 : ∃ f : Nat → Cd, ∀ i, i < len → ∀ j u, (cdCells (f i))[j]? = some u → w.cell? (a.add (i * 4 + j)) = some u := by
      classical
      exact ⟨fun i => if hi : i < len then (key i hi).choose else ⟨0, 0, 0, 0⟩, fun i hi => by simp only [dif_pos hi]; exact (key i hi).choose_spec⟩
    obtain ⟨f, hf2⟩ := key2
    have hlen : ((List.range len).map f).length = len := by simp
    refine ⟨some a, m, (List.range len).map f, by rw [hlen], ⟨cdsCells_length _, fun hn => ?_⟩, by omega⟩
    rw [hlen] at hn
    obtain ⟨b, off, rfl, hb⟩ := cell_at (by simpa using hf2 0 hn 0 _ rfl)
    refine ⟨b, off, rfl, hb, fun j u hu => ?_⟩
    have hj : j < len * 4 := by
      have := (List.getElem?_eq_some_iff.1 hu).1
      rw [cdsCells_length, hlen] at this
      exact this
    have h4 : j / 4 < len := by omega
    have hg := cdsCells_get ((List.range len).map f) (j / 4) (f (j / 4)) (by simp [h4]) (j % 4) (by omega)
    rw [show j / 4 * 4 + j % 4 = j from by omega, hu] at hg
    have h3 := hf2 (j / 4) h4 (j % 4) u hg.symm
    rw [show j / 4 * 4 + j % 4 = j from by omega, add_lit] at h3
    exact h3
end


/-! ### Slices of orders -/
def intsV (As : Nat → Option Addr) (cs : Nat → Nat) (os : List (List Int)) : List Value := (List.range os.length).map fun i => .slice (As i) (os.getD i []).length (cs i)
theorem intsV_get {As : Nat → Option Addr} {cs : Nat → Nat} {os : List (List Int)} {i : Nat} (h : i < os.length) : (intsV As cs os)[i]? = some (.slice (As i) (os.getD i []).length (cs i)) := by simp [intsV, h]
structure RdO (w : World) (B : Nat) (P : Option Addr) (As : Nat → Option Addr) (cs : Nat → Nat) (os : List (List Int)) : Prop where
  rows : Reads w B 1 P os.length (intsV As cs os)
  inn : ∀ i, i < os.length → RdI w B (As i) (os.getD i [])
section
variable {w w' : World} {B B' : Nat} {P : Option Addr} {As : Nat → Option Addr} {cs : Nat → Nat} {os : List (List Int)}
theorem RdO.below (h : RdO w B P As cs os) (hb : Below B w w') : RdO w' B P As cs os := ⟨h.rows.below hb, fun i hi => (h.inn i hi).below hb⟩
theorem RdO.more (h : RdO w B P As cs os) (hB : B ≤ B') : RdO w B' P As cs os := ⟨h.rows.more hB, fun i hi => (h.inn i hi).more hB⟩
theorem RdO.at_ (h : RdO w B P As cs os) {i : Nat} (hi : i < os.length) : ∃ b off, P = some ⟨b, off, none⟩ ∧ b < B ∧ w.cell? ⟨b, off + i, none⟩ = some (.slice (As i) (os.getD i []).length (cs i)) := by
  obtain ⟨b, off, e, hb, hc⟩ := h.rows.2 (by omega)
  exact ⟨b, off, e, hb, hc i _ (intsV_get hi)⟩
theorem RdO.nil (w : World) (B : Nat) (As : Nat → Option Addr) (cs : Nat → Nat) : RdO w B none As cs [] := ⟨⟨rfl, fun h => absurd h (by simp)⟩, fun i hi => absurd hi (by simp)⟩
end
theorem rowD {os : List (List Int)} {k : Nat} (hk : k < os.length) : os[k]? = some (os.getD k []) := by simp [List.getD_eq_getElem?_getD, hk]
theorem all_take {g : List Int → Bool} {os : List (List Int)} {k : Nat} (hk : k < os.length) (h : (os.take k).all g = true) : (os.take (k + 1)).all g = g (os.getD k []) := by
  have e : os.getD k [] = os[k] := by simp [List.getD_eq_getElem?_getD, hk]
  rw [List.take_succ_eq_append_getElem hk, List.all_append, h, e]
  simp
theorem all_miss {g : List Int → Bool} {os : List (List Int)} {k : Nat} (hk : k < os.length) (h : g (os.getD k []) = false) : os.all g = false := by
  refine List.all_eq_false.2 ⟨os.getD k [], List.mem_of_getElem? (rowD hk), by rw [h]; simp⟩

/-! ### What SameMemory answers -/
noncomputable def sameB (l : List Cd) (n : Int) (m : List Int) (os : List (List Int)) : Bool :=
  lockOk l n m && (decide (os.length ≤ 6) && (os.all (fun o => ordOk o n) && os.all fun o => intsEq (orderM l n m o) (leastM l n m)))
theorem leastM_ok {l : List Cd} {n : Int} {m : List Int} (h : lockOk l n m = true) : (leastM l n m).length = m.length ∧ 1 ≤ m.length := by
  obtain ⟨N, rfl, N1, N8, hp, hw, hm1, hm32⟩ := lock_parts h
  have := runE_mem hp N8 (allSch_ok N8) (CwOk.start (l := l) (n := N) hw) (start_nrm N1 m)
  refine ⟨?_, hm1⟩
  unfold leastM
  rw [if_pos h]
  simp only [Int.toNat_natCast]
  rw [this]
  rfl
theorem eq_ord {l : List Cd} {n : Int} {m o : List Int} (h : lockOk l n m = true) (he : intsEq (orderM l n m o) (leastM l n m) = true) : ordOk o n = true := by
  cases ho : ordOk o n with
  | true => rfl
  | false =>
    have e : orderM l n m o = [] := by simp [orderM, orderOk, ho]
    obtain ⟨h1, h2⟩ := leastM_ok h
    rw [e, intsEq_len] at he
    · cases he
    · rw [h1]; simp only [List.length_nil]; omega
theorem same_spec {l : List Cd} {n : Int} {m : List Int} {os : List (List Int)} (h : lockOk l n m = true) (h6 : os.length ≤ 6) : sameB l n m os = os.all fun o => intsEq (orderM l n m o) (leastM l n m) := by
  unfold sameB
  rw [h, decide_eq_true h6, Bool.true_and, Bool.true_and]
  cases ha : os.all (fun o => intsEq (orderM l n m o) (leastM l n m)) with
  | false => simp
  | true =>
    rw [Bool.and_true]
    rw [List.all_eq_true] at ha ⊢
    exact fun o ho => eq_ord h (ha o ho)

set_option maxRecDepth 100000 in
set_option maxHeartbeats 8000000 in
theorem sSameMemory_c {As : Nat → Option Addr} {cs : Nat → Nat} (A M P : Option Addr) (ca cm pc : Nat) (l : List Cd) (n : Int) (m : List Int) (os : List (List Int)) (w : World) (hA : RdC w w.heap.size A l) (hM : RdI w w.heap.size M m) (hP : RdO w w.heap.size P As cs os) (hl : l.length ≤ 1000000000) (hml : m.length ≤ 1000000000) (hol : os.length ≤ 1000000000) (hos : ∀ i, i < os.length → (os.getD i []).length ≤ 1000000000) :
    Calls Try.prog 19 #[.slice A l.length ca, .int .i64 n, .slice M m.length cm, .slice P os.length pc] w fun e w' => e = .returned (.bool (sameB l n m os)) ∧ Below w.heap.size w w' := by
  have HCR := Lib.hid (sl8Ok_c A M ca cm l n m w hA hM hl hml)
  have HSL := Lib.hid (fun W a b => sRunLeast_c A M ca cm l n m W a b hl hml)
  have HOS := Lib.hid hos
  clear hos
  cases hlo : lockOk l n m with
  | false =>
    have HV := Lib.hid (show sameB l n m os = false by simp [sameB, hlo])
    go_enter Try.func19, Try.ntmps19
    go_wp2_with fail
    refine HCR.out.mono ?_
    rintro e w1 ⟨rfl, b1⟩
    rw [hlo]
    have HB := Lib.hid b1
    clear b1
    go_wp2
    go_ret
    exact ⟨retb HV.out.symm, HB.out⟩
  | true =>
    by_cases h6 : os.length ≤ 6
    · have h6I : ¬ (6 : Int) < (os.length : Int) := by omega
      have HV := Lib.hid (same_spec hlo h6)
      have HLL := Lib.hid (leastM_ok hlo)
      have HSO := Lib.hid (fun X cx xs W a b d => sRunOrder_c A M X ca cm cx l n m xs W a b d hl hml)
      have HOL := Lib.hid (fun xs => orderM_len l n m xs)
      unfold GmP at HSL HSO
      generalize leastM l n m = V at *
      generalize (orderM l n m) = F at *
      have hvl : V.length ≤ 1000000000 := by have := HLL.out.1; omega
      have HA := Lib.hid hA
      have HM := Lib.hid hM
      clear hA hM
      go_enter Try.func19, Try.ntmps19
      go_wp2_with fail
      refine HCR.out.mono ?_
      rintro e w1 ⟨rfl, b1⟩
      rw [hlo]
      clear HCR hlo
      go_wp2_with fail
      refine (HSL.out w1 ((HA.out.below b1).more b1.size) ((HM.out.below b1).more b1.size)).mono ?_
      rintro e w2 ⟨X, xc, rfl, oX, b2⟩
      have hB := below_trans b1 (Nat.le_refl _) b2
      have vX := OwI.rd oX
      clear b1 b2 oX HSL
      have HX := Lib.hid vX
      have HB := Lib.hid hB
      clear vX hB
      go_wp2
      go_loopw [10] (fun kv wr => ∃ k : Nat, k ≤ os.length ∧ kv = .int .i64 k ∧ Hid ((os.take k).all (fun o => intsEq (F o) V) = true) ∧ Below w2.heap.size w2 wr) (fun kv _ => os.length - (intOf kv).toNat)
      case atStart => exact ⟨0, Nat.zero_le _, rfl, Lib.hid (by simp), Below.refl _ _⟩
      case round =>
        obtain ⟨k, hk, rfl, HT, hb⟩ := hrel
        have hbw := below_trans HB.out (Nat.le_refl _) hb
        by_cases hlt : k < os.length
        · have hkI : (k : Int) < (os.length : Int) := by omega
          have hPr := (hP.below hbw).more hbw.size
          obtain ⟨pb, po, rfl, hpB, p0⟩ := hPr.at_ hlt
          have hin := hPr.inn k hlt
          have hpl := HOS.out k hlt
          have HTK := Lib.hid (all_take hlt HT.out)
          have HMI := Lib.hid (fun h => all_miss (g := fun o => intsEq (F o) V) hlt h)
          have hAr := (HA.out.below hbw).more hbw.size
          have hMr := (HM.out.below hbw).more hbw.size
          have hXr := (HX.out.below hb).more hb.size
          clear hPr
          generalize os.getD k [] = o at *
          have hFl := HOL.out o
          obtain ⟨R, hFe⟩ : ∃ R, F o = R := ⟨_, rfl⟩
          rw [hFe] at hFl
          have HSR := Lib.hid (fun W a b d => by have h := HSO.out (As k) (cs k) o W a b d hpl; rw [hFe] at h; exact h)
          have HFE := Lib.hid hFe
          clear hFe
          go_wp2_with fail
          refine (HSR.out wr hAr hMr hin).mono ?_
          rintro e w3 ⟨Y, yc, rfl, oY, b3⟩
          have hbw3 := below_trans hb (Nat.le_refl _) b3
          have rY := OwI.rd oY
          have rX := (hXr.below b3).more b3.size
          have HBW := Lib.hid (below_trans HB.out (Nat.le_refl _) hbw3)
          have HB3 := Lib.hid hbw3
          clear oY b3 hbw3 hbw hb hXr hAr hMr hin p0
          by_cases hlen : R.length = V.length
          · have HTK2 : Hid ((os.take (k + 1)).all (fun o => intsEq (F o) V) = intsEq R V) := Lib.hid (by rw [← HFE.out]; exact HTK.out)
            have HMI2 : Hid (intsEq R V = false → sameB l n m os = false) := Lib.hid (fun h => by rw [HV.out]; exact HMI.out (by rw [← HFE.out] at h; exact h))
            clear HTK HMI HFE
            have hlI : ((R.length : Int) != (V.length : Int)) = false := by rw [hlen]; simp
            have HLEN := Lib.hid hlen
            clear hlen
            go_wp2
            go_loopw [12] (fun jv wr => ∃ j : Nat, j ≤ V.length ∧ jv = .int .i64 j ∧ Hid (intsEq R V = intsEq (R.drop j) (V.drop j)) ∧ Below w3.heap.size w3 wr) (fun jv _ => V.length - (intOf jv).toNat)
            case atStart => exact ⟨0, Nat.zero_le _, rfl, Lib.hid rfl, Below.refl _ _⟩
            case round =>
              obtain ⟨j, hj, rfl, HE, hb⟩ := hrel
              by_cases hjlt : j < V.length
              · have hjI : (j : Int) < (V.length : Int) := by omega
                obtain ⟨yb, yo, x, rfl, hyB, hx, c0⟩ := (rY.below hb).at_ (by have := HLEN.out; omega : j < R.length)
                obtain ⟨xb, xo, y, rfl, hxB, hy, d0⟩ := (rX.below hb).at_ hjlt
                have hjR : j < R.length := by have := HLEN.out; omega
                have HXX := Lib.hid hx
                have HYY := Lib.hid hy
                clear hx hy
                cases he : x == y with
                | false =>
                  have hn : (x != y) = true := by simp [bne, he]
                  have HN := Lib.hid he
                  clear he
                  go_wp2_with fail
                  go_quiet (fail)
                  go_wp2
                  go_ret
                  exact ⟨retb (by rw [HMI2.out (by rw [HE.out, intsEq_step HXX.out HYY.out, HN.out]; rfl)]), below_trans HBW.out (Nat.le_refl _) (hb.trans ⟨rfl, rfl, rfl, Nat.le_refl _, fun _ _ => rfl⟩)⟩
                | true =>
                  have hn : (x != y) = false := by simp [bne, he]
                  have HN := Lib.hid he
                  clear he
                  go_wp2_with fail
                  go_quiet (fail)
                  go_wp2
                  go_roundw
                  case rel => exact ⟨j + 1, by omega, by go_num, Lib.hid (by rw [HE.out, intsEq_step HXX.out HYY.out, HN.out]; rfl), hb.trans ⟨rfl, rfl, rfl, Nat.le_refl _, fun _ _ => rfl⟩⟩
                  case measure => simp [intOf]; omega
              · obtain rfl : j = V.length := by omega
                have HTT := Lib.hid (show (os.take (k + 1)).all (fun o => intsEq (F o) V) = true by
                  rw [HTK2.out, HE.out, List.drop_of_length_le (by have := HLEN.out; omega), List.drop_length]; rfl)
                have HB4 := Lib.hid (below_trans HB3.out (Nat.le_refl _) hb)
                clear hb HE
                go_wp2
                go_roundw
                case rel => exact ⟨k + 1, by omega, by go_num, HTT, HB4.out⟩
                case measure => simp [intOf]; omega
          · have HV2 : Hid (sameB l n m os = false) := Lib.hid (by rw [HV.out]; exact HMI.out (by rw [← HFE.out] at hlen; exact intsEq_len _ _ hlen))
            have hlI : ((R.length : Int) != (V.length : Int)) = true := by rw [bne_iff_ne]; omega
            clear HTK HMI HFE hlen
            go_wp2
            go_ret
            exact ⟨retb HV2.out.symm, HBW.out⟩
        · obtain rfl : k = os.length := by omega
          have HV2 := Lib.hid (show sameB l n m os = true by rw [HV.out]; have := HT.out; rwa [List.take_length] at this)
          have HBW := Lib.hid hbw
          clear hbw hb
          go_wp2
          go_ret
          exact ⟨retb HV2.out.symm, HBW.out⟩
    · have h6I : (6 : Int) < (os.length : Int) := by omega
      have HV := Lib.hid (show sameB l n m os = false by simp [sameB, h6])
      go_enter Try.func19, Try.ntmps19
      go_wp2_with fail
      refine HCR.out.mono ?_
      rintro e w1 ⟨rfl, b1⟩
      rw [hlo]
      have HB := Lib.hid b1
      clear b1
      go_wp2
      go_ret
      exact ⟨retb HV.out.symm, HB.out⟩

end Go.Proofs.Ytelbfeidpcojmaa
