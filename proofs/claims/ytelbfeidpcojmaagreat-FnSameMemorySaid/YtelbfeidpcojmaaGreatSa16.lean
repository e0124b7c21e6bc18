/- Part 16 of what the claim needs. -/
import Derived.Test.YtelbfeidpcojmaaGreatSa6
import Derived.Test.YtelbfeidpcojmaaGreatSa8
import Derived.Test.YtelbfeidpcojmaaGreatSa11
import Derived.Test.YtelbfeidpcojmaaGreatSa12
import Derived.Test.YtelbfeidpcojmaaGreatSa15
namespace Go.Proofs.YtelbfeidpcojmaaGreat
open Go.RowKit
set_option linter.unusedVariables false
set_option linter.unusedSimpArgs false

theorem CM.appI {w w' : World} {B n b2 k c2 : Nat} {z : Gm} {c : Cw} {A : Option Addr} {xs : List Value} (h : CM (fun _ => True) w B n z c) (ht : OR w b2 78 2 A k c2 xs) (hg : w.grownBy w' (Value.ownBlock (.slice A k c2))) : CM (fun _ => True) w' B n z c :=
  ⟨OR.kept h.row hg (own_sep h.row ht (by decide)), fun k hk => OR.kept (h.regs k hk) hg (own_sep (h.regs k hk) ht (by decide)), fun k hk => OR.kept (h.turns k hk) hg (own_sep (h.turns k hk) ht (by decide)), OR.kept h.mem hg (own_sep h.mem ht (by decide)), h.rm, h.rr, h.tm, h.tr, h.tt, trivial, trivial, fun _ _ => trivial, fun _ _ _ _ => trivial, fun _ _ => trivial⟩
theorem blk_appI {w w' : World} {b2 k c2 g : Nat} {A : Option Addr} {xs : List Value} {cs : Array Value} {t : TypeId} (ht : OR w b2 78 2 A k c2 xs) (hg : w.grownBy w' (Value.ownBlock (.slice A k c2))) (hb : w.heap[g]? = some (.cells cs t (0, 0))) (hne : 78 ≠ t) : w'.heap[g]? = some (.cells cs t (0, 0)) :=
  (hg.block g (lt_of_block hb) (fun e => own_ne ht hb hne e.symm)).trans hb
theorem CS.appI {w w' : World} {B n mg cb b2 k c2 ca ob : Nat} {A : Option Addr} {l : List Cd} {ga : Nat → Nat} {z : Gm} {c : Cw} {T : Option Addr} {xs : List Value} (h : CS (fun _ => True) w B n mg cb A ca l ob ga z c) (hb : Below B w w') (ht : OR w b2 78 2 T k c2 xs) (hg : w.grownBy w' (Value.ownBlock (.slice T k c2))) : CS (fun _ => True) w' B n mg cb A ca l ob ga z c :=
  ⟨h.mach.keep hb (fun _ _ hk => blk_appI ht hg hk (by decide)) (fun _ _ hk => blk_appI ht hg hk (by decide)) (fun _ _ hk => blk_appI ht hg hk (by decide)), h.cm.appI ht hg, h.ok, blk_appI ht hg h.blk (by decide), h.cB, Nat.le_trans h.hB hg.size⟩

def IlRel (w : World) (n mg cb : Nat) (A : Option Addr) (ca : Nat) (l : List Cd) (ob : Nat) (ga : Nat → Nat) (sch : Nat → List Nat) (c : Cw) (T : Nat) (g : Nat) (tv : Value) (wr : World) : Prop :=
  ∃ (i : Nat) (z : Gm) (At : Option Addr) (ct : Nat) (bs : List (Nat × Nat)), i + g = T ∧ bs.length ≤ i ∧ tv = .slice At bs.length ct ∧ OR wr w.heap.size 78 2 At bs.length ct (beatsV bs) ∧ CS (fun _ => True) wr w.heap.size n mg cb A ca l ob ga z (runC l sch c i) ∧ Below w.heap.size w wr
def IlP (w : World) (R : List Int) (e : Ending) (w' : World) : Prop :=
  ∃ (A : Option Addr) (c : Nat) (T : Value), e = .returned (.tuple #[.slice A R.length c, T]) ∧ OwI w' w.heap.size A R.length c R ∧ Below w.heap.size w w'

noncomputable def leastM (l : List Cd) (n : Int) (m : List Int) : List Int := if lockOk l n m then (runE l (allSch n.toNat) (Cw.start n.toNat m)).mem else []
theorem lock_parts {l : List Cd} {n : Int} {m : List Int} (h : lockOk l n m = true) : ∃ N : Nat, n = (N : Int) ∧ 1 ≤ N ∧ N ≤ 8 ∧ pv l = true ∧ wordsOk m ∧ 1 ≤ m.length ∧ m.length ≤ 32 := by
  simp only [lockOk, Bool.and_eq_true] at h
  obtain ⟨h1, h2, h3⟩ := h
  obtain ⟨n1, n8⟩ := inR_iff.1 h2
  obtain ⟨N, rfl⟩ := Int.eq_ofNat_of_zero_le (show 0 ≤ n by omega)
  obtain ⟨w1, w2, w3⟩ := memOk_iff.1 h3
  exact ⟨N, rfl, by omega, by omega, h1, w1, w2, w3⟩
theorem maskAll_nat {N : Nat} (h1 : 1 ≤ N) (h8 : N ≤ 8) : maskAllI (N : Int) = ((2 ^ N - 1 : Nat) : Int) := by
  unfold maskAllI
  rw [if_pos (inR_iff.2 (by omega)), Int.toNat_natCast]
  have := Nat.two_pow_pos N
  have e : ((2 ^ N : Nat) : Int) = (2 : Int) ^ N := by simp
  omega

set_option maxRecDepth 100000 in
set_option maxHeartbeats 8000000 in
theorem runLeast_c (A M : Option Addr) (ca cm : Nat) (l : List Cd) (N : Nat) (m : List Int) (w : World) (hA : RdC w w.heap.size A l) (hM : RdI w w.heap.size M m)
    (N1 : 1 ≤ N) (N8 : N ≤ 8) (hp : pv l = true) (hw : wordsOk m) (hm1 : 1 ≤ m.length) (hm32 : m.length ≤ 32) :
    Calls Tryz.prog 26 #[.slice A l.length ca, .int .i64 N, .slice M m.length cm] w (IlP w (runE l (allSch N) (Cw.start N m)).mem) := by
  have HA := Lib.hid hA
  have hsch := allSch_ok N8
  have hl40 := (pv_iff.1 hp).1
  have h0 : CwOk l N (Cw.start N m) := CwOk.start hw
  have hn0 := start_nrm (l := l) N1 m
  obtain ⟨T1, T2, T3⟩ := run_T hp N8 hsch h0 hn0
  have HT1 := Lib.hid T1
  have HT2 := Lib.hid T2
  have HRO := Lib.hid (fun i => run_ok' hp N8 hsch h0 hn0 i)
  have HRE : Hid (runE l (allSch N) (Cw.start N m) = runC l (allSch N) (Cw.start N m) (endT l (allSch N) (Cw.start N m))) := Lib.hid rfl
  have hTb : endT l (allSch N) (Cw.start N m) ≤ 80000 := by omega
  have hc0 : runC l (allSch N) (Cw.start N m) 0 = Cw.start N m := rfl
  have HC0 := Lib.hid hc0
  have hmc : M = none → cm = 0 := fun e => by
    obtain ⟨b, off, e2, _⟩ := hM.2 (by omega)
    rw [e] at e2; cases e2
  have HMC := Lib.hid hmc
  have HAP := Lib.hid (fun i => all_part N8 i)
  have HAL := Lib.hid (fun i => show allSch N i = lanesOf (2 ^ N - 1) from rfl)
  clear hsch h0 hn0 T1 T2 T3 hc0 hw hmc
  have HSE := Lib.hid (fun i => show runC l (allSch N) (Cw.start N m) (i + 1) = stepG l (runC l (allSch N) (Cw.start N m) i) (allSch N i) from rfl)
  generalize hTe : endT l (allSch N) (Cw.start N m) = T at *
  clear hTe
  generalize hse : allSch N = sch at *
  clear hse
  go_enter Tryz.func26, Tryz.ntmps26
  go_wp2_with fail
  refine (newCrowd_c M cm m N w hM ⟨N1, N8⟩ ⟨hm1, hm32⟩ HMC.out).mono ?_
  rintro e w3 ⟨z, rfl, hC, b3⟩
  have hs3 := b3.size
  have hxA := Ext.alloc w3 (.cells #[.slice (some ⟨z.lb, 0, none⟩) N z.lc, .slice (some ⟨z.mb, 0, none⟩) m.length z.mc] 67)
  have hNA := heap_alloc_new w3 (.cells #[.slice (some ⟨z.lb, 0, none⟩) N z.lc, .slice (some ⟨z.mb, 0, none⟩) m.length z.mc] 67)
  have b4 := b3.alloc b3.size (.cells #[.slice (some ⟨z.lb, 0, none⟩) N z.lc, .slice (some ⟨z.mb, 0, none⟩) m.length z.mc] 67)
  have hA4 := (hA.below b4).more b4.size
  have HC4 := Lib.hid (hC.ext hxA)
  have HB4 := Lib.hid (b4)
  have HN4 := Lib.hid hNA
  have hcb : w.heap.size ≤ w3.heap.size := hs3
  have hw2 : w.heap.size ≤ w.heap.size := Nat.le_refl _
  clear hxA hNA b3 b4 hC hM hA hs3
  go_wp2_with fail
  generalize w3.alloc (.cells #[.slice (some ⟨z.lb, 0, none⟩) N z.lc, .slice (some ⟨z.mb, 0, none⟩) m.length z.mc] 67) = w4 at *
  generalize w3.heap.size = cb at *
  refine (newMachine_c A ca l w4 hA4 hp).mono ?_
  rintro e w5 ⟨mg, ob, ga, rfl, hmk, b5⟩
  have hs5 := b5.size
  have hC5 := HC4.out.ext (Ext.of_below b5)
  have hN5 := (Ext.of_below b5).heap_ HN4.out
  have HB5 := Lib.hid (below_trans HB4.out (Nat.le_refl _) b5)
  have HCS : Hid (CS (fun _ => True) w5 w.heap.size N mg cb A ca l ob ga z (runC l sch (Cw.start N m) 0)) := Lib.hid (by
    rw [HC0.out]
    have hr := HRO.out 0
    rw [HC0.out] at hr
    have hC6 : CM (fun _ => True) w5 w.heap.size N z (Cw.start N m) := ⟨OR.mono hC5.row hw2, fun k hk => OR.mono (hC5.regs k hk) hw2, fun k hk => OR.mono (hC5.turns k hk) hw2, OR.mono hC5.mem hw2, hC5.rm, hC5.rr, hC5.tm, hC5.tr, hC5.tt, trivial, trivial, fun _ _ => trivial, fun _ _ _ _ => trivial, fun _ _ => trivial⟩
    have hB4s := HB4.out.size
    exact ⟨⟨hmk.blk, by have := hmk.gB; omega, OR.mono hmk.own hB4s, fun p hp' ho' => ⟨by have := (hmk.bks p hp' ho').1; omega, (hmk.bks p hp' ho').2⟩, HA.out.below HB5.out⟩, hC6, hr.1, hN5, hcb, HB5.out.size⟩)
  clear b5 hC5 hN5 HC4 HN4 HB4 hA4 hmk hs5 hw2 hcb
  have hc0m : (Cw.start N m).mem.length = m.length := rfl
  generalize Cw.start N m = c0 at *
  have HCM := Lib.hid hc0m
  clear hc0m
  go_wp2_with fail
  have HT0 := Lib.hid (OR.nil_ w5 w.heap.size 78 2)
  go_loopg [10] T (fun g tv wr => IlRel w N mg cb A ca l ob ga sch c0 T g tv wr)
  case atStart => exact ⟨0, z, none, 0, [], Nat.zero_add _, Nat.le_refl _, rfl, HT0.out, HCS.out, HB5.out⟩
  case round =>
    obtain ⟨i, zi, At, ct, bs, hi, hbi, rfl, hTi, hCi, hb⟩ := hrel
    have HCi := Lib.hid hCi
    have HBi := Lib.hid hb
    have HTi := Lib.hid hTi
    have hbs80 : bs.length ≤ 80000 := by omega
    clear HCS HB5 HT0 hCi hb hTi
    by_cases hlt : i < T
    · have hov := HT2.out i hlt
      have hll := least_lt (HRO.out i).1 (HRO.out i).2.1 hov
      rw [← all_part N8 i, show allSch N i = lanesOf (2 ^ N - 1) from rfl] at hll
      go_wp2_with fail
      refine (isOver_c HCi.out hp N8).mono ?_
      rintro e w6 ⟨rfl, hx6⟩
      rw [hov]
      have HC6 := Lib.hid (HCi.out.ext hx6)
      have HB6 := Lib.hid (HBi.out.trans (hx6.below.mono (by have := HBi.out.size; exact this)))
      have HT6 := Lib.hid (HTi.out.ext hx6)
      clear hx6 hov HCi HBi HTi
      go_wp2_with fail
      refine (iMaskAll_c N w6).mono ?_
      rintro e w7 ⟨rfl, rfl⟩
      have hmaI : maskAllI (N : Int) = ((2 ^ N - 1 : Nat) : Int) := maskAll_nat N1 N8
      rw [hmaI]
      have h2N : 2 ^ N ≤ 2 ^ 8 := Nat.pow_le_pow_right (by decide) N8
      have hmlt : 2 ^ N - 1 < 65536 := by
        have h256 : (2 : Nat) ^ 8 = 256 := rfl
        omega
      have HMN := Lib.hid (fun k (hk : k ∈ lanesOf (2 ^ N - 1)) => (allSch_mem N8 (i := i)).1 hk)
      clear hmaI h2N
      have HLSs := Lib.hid ((HSE.out i).trans (by rw [HAL.out i, stepG_eq]))
      generalize 2 ^ N - 1 = ma at *
      go_wp2_with fail
      refine (least_c HC6.out hp N8 hmlt HMN.out).mono ?_
      rintro e w8 ⟨rfl, hx8⟩
      have HC8 := Lib.hid (HC6.out.ext hx8)
      have HB8 := Lib.hid (HB6.out.trans (hx8.below.mono (by have := HB6.out.size; exact this)))
      have HT8 := Lib.hid (HT6.out.ext hx8)
      have hmk : maskL (amongL l (runC l sch c0 i) (lanesOf ma)) < 256 := maskL_lt (fun k hk => (lanesOf_mem.1 (among_sub hk).1).1)
      have HMK := Lib.hid (fun k (hk : k ∈ lanesOf (maskL (amongL l (runC l sch c0 i) (lanesOf ma)))) => HMN.out k (by rw [lanes_among] at hk; exact (among_sub hk).1))
      have HMLN : Hid (1 ≤ (runC l sch c0 i).mem.length ∧ (runC l sch c0 i).mem.length ≤ 32) := Lib.hid (by have h1 := (HRO.out i).2.2; rw [HCM.out] at h1; omega)
      have hAr := HA.out.below HB8.out
      obtain ⟨ab, ao, x, hAE, habB, hx, a0, -, -, -⟩ := hAr.at_ hll
      subst hAE
      clear hx8 HC6 HB6 HT6 hx hAr
      generalize hce : runC l sch c0 i = ci at *
      generalize maskL (amongL l ci (lanesOf ma)) = mk at *
      generalize leastP l ci (lanesOf ma) = at' at *
      have hatI : (at' : Int) < (l.length : Int) := by omega
      by_cases h12 : x.op = 12
      · have ht12 : (x.op != 12) = false := by simp [h12]
        clear h12
        have HC9 := HC8
        have HB9' := HB8
        have HT9 := HT8
        go_wp2_with fail
        refine (stepAll_c HC9.out hp N8 (show mk < 65536 by omega) HMK.out HMLN.out).mono ?_
        rintro e w9 ⟨rfl, z9, hC9, hz9, hst9⟩
        have HC10 := Lib.hid hC9
        have HB10 := Lib.hid (HB9'.out.trans hst9.bel)
        have HT10 := Lib.hid (OR.byType HT9.out (fun g cs hg => hst9.byt g cs _ (by decide) (by decide) hg))
        clear hC9 hz9 hst9
        go_wp2
        go_roundg (T - (i + 1))
        case measure => omega
        case rel => exact ⟨i + 1, z9, _, _, bs, by omega, by first | omega | (simp; omega), by first | rfl | simp, HT10.out, by rw [HLSs.out]; exact HC10.out, HB10.out⟩
      · have ht12 : (x.op != 12) = true := by simp [h12]
        by_cases h14 : x.op = 14
        · have ht14 : (x.op != 14) = false := by simp [h14]
          clear h12 h14
          have HC9 := HC8
          have HB9' := HB8
          have HT9 := HT8
          go_wp2_with fail
          refine (stepAll_c HC9.out hp N8 (show mk < 65536 by omega) HMK.out HMLN.out).mono ?_
          rintro e w9 ⟨rfl, z9, hC9, hz9, hst9⟩
          have HC10 := Lib.hid hC9
          have HB10 := Lib.hid (HB9'.out.trans hst9.bel)
          have HT10 := Lib.hid (OR.byType HT9.out (fun g cs hg => hst9.byt g cs _ (by decide) (by decide) hg))
          clear hC9 hz9 hst9
          go_wp2
          go_roundg (T - (i + 1))
          case measure => omega
          case rel => exact ⟨i + 1, z9, _, _, bs, by omega, by first | omega | (simp; omega), by first | rfl | simp, HT10.out, by rw [HLSs.out]; exact HC10.out, HB10.out⟩
        · have ht14 : (x.op != 14) = true := by simp [h14]
          clear h12 h14
          have hXa := Ext.alloc w8 (.cells #[.int .i64 at', .int .i64 mk] 78)
          have HTa := Lib.hid (HT8.out.ext hXa)
          have HXa := Lib.hid hXa
          have hsa : w.heap.size ≤ (w8.alloc (.cells #[.int .i64 at', .int .i64 mk] 78)).heap.size := Nat.le_trans HB8.out.size hXa.size
          clear hXa
          go_wp2_with (at_builtin; refine app_row 47 78 _ 2 16 Tryz.underlying47 infoBeat rfl (by decide) (by decide) rfl _ _ rfl w.heap.size At bs.length ct _ HTa.out rfl w8.heap.size 1 1 [.int .i64 at', .int .i64 mk] rfl rfl ?hc ?h1 ?hn ?hb ?_)
          case hc =>
            intro j u hu
            match j, hu with
            | 0, hu => simp at hu; subst hu; simp [go_sem]
            | 1, hu => simp at hu; subst hu; simp [go_sem]
          case h1 => intro u hu; simp at hu; rcases hu with rfl | rfl <;> rfl
          case hn => omega
          case hb => exact hsa
          intro A2 c2 w9' ho2 hg2
          have HB9' := Lib.hid (below_gr (HB8.out.trans (HXa.out.below.mono HB8.out.size)) hsa HTa.out (Nat.le_refl _) hg2)
          have HC9 := Lib.hid ((HC8.out.ext HXa.out).appI (below_gr (Below.refl _ _) hsa HTa.out (Nat.le_refl _) hg2) HTa.out hg2)
          have HT9 : Hid (OR w9' w.heap.size 78 2 A2 (bs ++ [(at', mk)]).length c2 (beatsV (bs ++ [(at', mk)]))) := Lib.hid (by rw [beatsV_append, List.length_append]; exact ho2)
          clear ho2 hg2 HTa HXa a0
          go_wp2_with fail
          refine (stepAll_c HC9.out hp N8 (show mk < 65536 by omega) HMK.out HMLN.out).mono ?_
          rintro e w9 ⟨rfl, z9, hC9, hz9, hst9⟩
          have HC10 := Lib.hid hC9
          have HB10 := Lib.hid (HB9'.out.trans hst9.bel)
          have HT10 := Lib.hid (OR.byType HT9.out (fun g cs hg => hst9.byt g cs _ (by decide) (by decide) hg))
          clear hC9 hz9 hst9
          go_wp2
          go_roundg (T - (i + 1))
          case measure => omega
          case rel => exact ⟨i + 1, z9, _, _, (bs ++ [(at', mk)]), by omega, by first | omega | (simp; omega), by first | rfl | simp, HT10.out, by rw [HLSs.out]; exact HC10.out, HB10.out⟩
    · obtain rfl : i = T := by omega
      have hov := HT1.out
      go_wp2_with fail
      refine (isOver_c HCi.out hp N8).mono ?_
      rintro e w6 ⟨rfl, hx6⟩
      rw [hov]
      have HC6 := Lib.hid (HCi.out.ext hx6)
      have HB6 := Lib.hid (HBi.out.trans (hx6.below.mono (by have := HBi.out.size; exact this)))
      obtain ⟨-, c1⟩ := HC6.out.cells
      clear hx6 hov
      have hme := (HRO.out i).2.2
      rw [HCM.out] at hme
      rw [hme] at c1
      have HME := Lib.hid hme
      clear hme
      go_wp2
      go_ret2
      refine ⟨some ⟨zi.mb, 0, none⟩, zi.mc, .slice At bs.length ct, ?_, .inr ?_, HB6.out⟩
      · rw [HRE.out, HME.out]
        rfl
      rw [HRE.out, HME.out]
      have h1 := HC6.out.cm.mem
      rw [HME.out] at h1
      exact h1


theorem empty_ret {w w1 : World} {R : List Int} (hR : R = []) (hB : Below w.heap.size w w1) : GmP w R (.returned (.slice (some ⟨w1.heap.size, 0, none⟩) 0 0)) (w1.alloc (.cells #[] 3)) :=
  ⟨some ⟨w1.heap.size, 0, none⟩, 0, by rw [hR]; rfl, .inr (by rw [hR]; exact OI.empty_ w1 w.heap.size hB.size), hB.alloc hB.size _⟩

set_option maxRecDepth 100000 in
set_option maxHeartbeats 8000000 in
theorem sRunOrder_c (A M X : Option Addr) (ca cm cx : Nat) (l : List Cd) (n : Int) (m xs : List Int) (w : World) (hA : RdC w w.heap.size A l) (hM : RdI w w.heap.size M m) (hX : RdI w w.heap.size X xs) (hl : l.length ≤ 1000000000) (hml : m.length ≤ 1000000000) (hxl : xs.length ≤ 1000000000) :
    Calls Tryz.prog 32 #[.slice A l.length ca, .int .i64 n, .slice M m.length cm, .slice X xs.length cx] w (GmP w (orderM l n m xs)) := by
  have HSP := Lib.hid (fun W a => sProgramValid_c A ca l W a hl)
  have HSO := Lib.hid (fun W a => sOrderValid_c X cx xs n W a hxl)
  have HSM := Lib.hid (fun W a => sMemoryValid_c M cm m W a hml)
  cases hp : pv l with
  | false =>
    have HV := Lib.hid (show orderM l n m xs = [] by simp [orderM, orderOk, lockOk, hp])
    go_enter Tryz.func32, Tryz.ntmps32
    go_wp2_with fail
    refine (HSP.out w hA).mono ?_
    rintro e w1 ⟨rfl, b1⟩
    rw [hp]
    have HB := Lib.hid b1
    clear b1
    go_wp2
    go_ret
    exact empty_ret HV.out HB.out
  | true =>
    cases ho : ordOk xs n with
    | false =>
      have HV := Lib.hid (show orderM l n m xs = [] by simp [orderM, orderOk, ho])
      go_enter Tryz.func32, Tryz.ntmps32
      go_wp2_with fail
      refine (HSP.out w hA).mono ?_
      rintro e w1 ⟨rfl, b1⟩
      rw [hp]
      have HB := Lib.hid b1
      have hX1 := (hX.below b1).more b1.size
      clear b1
      go_wp2_with fail
      refine (HSO.out w1 hX1).mono ?_
      rintro e w1' ⟨rfl, rfl⟩
      rw [ho]
      go_wp2
      go_ret
      exact empty_ret HV.out HB.out
    | true =>
      cases hm : memOk m with
      | false =>
        have HV := Lib.hid (show orderM l n m xs = [] by simp [orderM, orderOk, lockOk, hm])
        go_enter Tryz.func32, Tryz.ntmps32
        go_wp2_with fail
        refine (HSP.out w hA).mono ?_
        rintro e w1 ⟨rfl, b1⟩
        rw [hp]
        have HB := Lib.hid b1
        have hX1 := (hX.below b1).more b1.size
        have hM1 := (hM.below b1).more b1.size
        clear b1
        go_wp2_with fail
        refine (HSO.out w1 hX1).mono ?_
        rintro e w1' ⟨rfl, rfl⟩
        rw [ho]
        go_wp2_with fail
        refine (HSM.out w1 hM1).mono ?_
        rintro e w1' ⟨rfl, rfl⟩
        rw [hm]
        go_wp2
        go_ret
        exact empty_ret HV.out HB.out
      | true =>
        have hin : inR n 1 8 = true := by
          have h := ho
          simp only [ordOk, Bool.and_eq_true] at h
          exact h.1
        have hok : orderOk l n m xs = true := by simp [orderOk, lockOk, hp, hin, hm, ho]
        obtain ⟨N, rfl, N1, N8, x1, x40, hxs, hsch, _, hw, hm1, hm32⟩ := order_in hok
        rw [show orderM l N m xs = (runE l (orSch xs) (Cw.start N m)).mem by simp [orderM, hok]]
        exact sRunOrder_ok A M X ca cm cx l N m xs w hA hM hX hm ho N1 N8 x1 x40 hxs hsch hp hw hm1 hm32

set_option maxRecDepth 100000 in
set_option maxHeartbeats 8000000 in
theorem sRunLeast_c (A M : Option Addr) (ca cm : Nat) (l : List Cd) (n : Int) (m : List Int) (w : World) (hA : RdC w w.heap.size A l) (hM : RdI w w.heap.size M m) (hl : l.length ≤ 1000000000) (hml : m.length ≤ 1000000000) :
    Calls Tryz.prog 31 #[.slice A l.length ca, .int .i64 n, .slice M m.length cm] w (GmP w (leastM l n m)) := by
  have HSP := Lib.hid (fun W a b => sl8Ok_c A M ca cm l n m W a b hl hml)
  cases hlo : lockOk l n m with
  | false =>
    have HV := Lib.hid (show leastM l n m = [] by simp [leastM, hlo])
    go_enter Tryz.func31, Tryz.ntmps31
    go_wp2_with fail
    refine (HSP.out w hA hM).mono ?_
    rintro e w1 ⟨rfl, b1⟩
    rw [hlo]
    have HB := Lib.hid b1
    clear b1
    go_wp2
    go_ret
    exact empty_ret HV.out HB.out
  | true =>
    obtain ⟨N, rfl, N1, N8, hp, hw, hm1, hm32⟩ := lock_parts hlo
    have HV := Lib.hid (show leastM l N m = (runE l (allSch N) (Cw.start N m)).mem by simp [leastM, hlo])
    have HRC := Lib.hid (fun W a b => sl17Run_c A M ca cm l N m W a b N1 N8 hp hw hm1 hm32)
    unfold GmP
    rw [HV.out]
    unfold SlP at HRC
    generalize (runE l (allSch N) (Cw.start N m)).mem = R at *
    clear hp hw HV
    go_enter Tryz.func31, Tryz.ntmps31
    go_wp2_with fail
    refine (HSP.out w hA hM).mono ?_
    rintro e w1 ⟨rfl, b1⟩
    rw [hlo]
    have hA1 := (hA.below b1).more b1.size
    have hM1 := (hM.below b1).more b1.size
    have HB1 := Lib.hid b1
    clear b1 hlo
    go_wp2_with fail
    refine (HRC.out w1 hA1 hM1).mono ?_
    rintro e w3 ⟨L, nn, lc, A', c', T, rfl, hO, hb3⟩
    have HO := Lib.hid (show OI w3 w.heap.size A' R.length c' R from OR.mono hO HB1.out.size)
    have HB3 := Lib.hid (below_trans HB1.out (Nat.le_refl _) hb3)
    have HX := Lib.hid (Ext.alloc w3 (.cells #[.slice L nn lc, .slice A' R.length c'] 67))
    clear hO hb3 HRC hA1 hM1
    go_wp2
    go_ret
    exact ⟨A', c', rfl, .inr (OR.ext HO.out HX.out), HB3.out.trans (HX.out.below.mono HB3.out.size)⟩

theorem orderM_len (l : List Cd) (n : Int) (m xs : List Int) : (orderM l n m xs).length ≤ m.length := by
  unfold orderM
  split
  · rename_i h
    obtain ⟨N, rfl, N1, N8, x1, x40, hxs, hsch, hp, hw, hm1, hm32⟩ := order_in h
    have := runE_mem hp N8 hsch (CwOk.start (l := l) (n := N) hw) (start_nrm N1 m)
    simp only [Int.toNat_natCast]
    rw [this]
    exact Nat.le_refl _
  · simp
theorem leastM_len (l : List Cd) (n : Int) (m : List Int) : (leastM l n m).length ≤ m.length := by
  unfold leastM
  split
  · rename_i h
    obtain ⟨N, rfl, N1, N8, hp, hw, hm1, hm32⟩ := lock_parts h
    have := runE_mem hp N8 (allSch_ok N8) (CwOk.start (l := l) (n := N) hw) (start_nrm N1 m)
    simp only [Int.toNat_natCast]
    rw [this]
    exact Nat.le_refl _
  · simp


/-! ### Slices of orders -/
def intsV (As : Nat → Option Addr) (cs : Nat → Nat) (os : List (List Int)) : List Value := (List.range os.length).map fun i => .slice (As i) (os.getD i []).length (cs i)
theorem intsV_get {As : Nat → Option Addr} {cs : Nat → Nat} {os : List (List Int)} {i : Nat} (h : i < os.length) : (intsV As cs os)[i]? = some (.slice (As i) (os.getD i []).length (cs i)) := by simp [intsV, h]
structure RdO (w : World) (B : Nat) (P : Option Addr) (As : Nat → Option Addr) (cs : Nat → Nat) (os : List (List Int)) : Prop where
  rows : Reads w B 1 P os.length (intsV As cs os)
  inn : ∀ i, i < os.length → RdI w B (As i) (os.getD i [])
section
variable {w w' : World} {B B' : Nat} {P : Option Addr} {As : Nat → Option Addr} {cs : Nat → Nat} {os : List (List Int)}
theorem RdO.below (h : RdO w B P As cs os) (hb : Below B w w') : RdO w' B P As cs os := ⟨h.rows.below hb, fun i hi => (h.inn i hi).below hb⟩
theorem RdO.more (h : RdO w B P As cs os) (hB : B ≤ B') : RdO w B' P As cs os := ⟨h.rows.more hB, fun i hi => (h.inn i hi).more hB⟩
theorem RdO.at_ (h : RdO w B P As cs os) {i : Nat} (hi : i < os.length) : ∃ b off, P = some ⟨b, off, none⟩ ∧ b < B ∧ w.cell? ⟨b, off + i, none⟩ = some (.slice (As i) (os.getD i []).length (cs i)) := by
  obtain ⟨b, off, e, hb, hc⟩ := h.rows.2 (by omega)
  exact ⟨b, off, e, hb, hc i _ (intsV_get hi)⟩
theorem RdO.nil (w : World) (B : Nat) (As : Nat → Option Addr) (cs : Nat → Nat) : RdO w B none As cs [] := ⟨⟨rfl, fun h => absurd h (by simp)⟩, fun i hi => absurd hi (by simp)⟩
end
theorem rowD {os : List (List Int)} {k : Nat} (hk : k < os.length) : os[k]? = some (os.getD k []) := by simp [List.getD_eq_getElem?_getD, hk]
theorem all_take {g : List Int → Bool} {os : List (List Int)} {k : Nat} (hk : k < os.length) (h : (os.take k).all g = true) : (os.take (k + 1)).all g = g (os.getD k []) := by
  have e : os.getD k [] = os[k] := by simp [List.getD_eq_getElem?_getD, hk]
  rw [List.take_succ_eq_append_getElem hk, List.all_append, h, e]
  simp
theorem all_miss {g : List Int → Bool} {os : List (List Int)} {k : Nat} (hk : k < os.length) (h : g (os.getD k []) = false) : os.all g = false := by
  refine List.all_eq_false.2 ⟨os.getD k [], List.mem_of_getElem? (rowD hk), by rw [h]; simp⟩

/-! ### What SameMemory answers -/
noncomputable def sameB (l : List Cd) (n : Int) (m : List Int) (os : List (List Int)) : Bool :=
  lockOk l n m && (decide (os.length ≤ 6) && (os.all (fun o => ordOk o n) && os.all fun o => intsEq (orderM l n m o) (leastM l n m)))
theorem leastM_ok {l : List Cd} {n : Int} {m : List Int} (h : lockOk l n m = true) : (leastM l n m).length = m.length ∧ 1 ≤ m.length := by
  obtain ⟨N, rfl, N1, N8, hp, hw, hm1, hm32⟩ := lock_parts h
  have := runE_mem hp N8 (allSch_ok N8) (CwOk.start (l := l) (n := N) hw) (start_nrm N1 m)
  refine ⟨?_, hm1⟩
  unfold leastM
  rw [if_pos h]
  simp only [Int.toNat_natCast]
  rw [this]
  rfl
theorem eq_ord {l : List Cd} {n : Int} {m o : List Int} (h : lockOk l n m = true) (he : intsEq (orderM l n m o) (leastM l n m) = true) : ordOk o n = true := by
  cases ho : ordOk o n with
  | true => rfl
  | false =>
    have e : orderM l n m o = [] := by simp [orderM, orderOk, ho]
    obtain ⟨h1, h2⟩ := leastM_ok h
    rw [e, intsEq_len] at he
    · cases he
    · rw [h1]; simp only [List.length_nil]; omega
theorem same_spec {l : List Cd} {n : Int} {m : List Int} {os : List (List Int)} (h : lockOk l n m = true) (h6 : os.length ≤ 6) : sameB l n m os = os.all fun o => intsEq (orderM l n m o) (leastM l n m) := by
  unfold sameB
  rw [h, decide_eq_true h6, Bool.true_and, Bool.true_and]
  cases ha : os.all (fun o => intsEq (orderM l n m o) (leastM l n m)) with
  | false => simp
  | true =>
    rw [Bool.and_true]
    rw [List.all_eq_true] at ha ⊢
    exact fun o ho => eq_ord h (ha o ho)

set_option maxRecDepth 100000 in
set_option maxHeartbeats 8000000 in
theorem sSameMemory_c {As : Nat → Option Addr} {cs : Nat → Nat} (A M P : Option Addr) (ca cm pc : Nat) (l : List Cd) (n : Int) (m : List Int) (os : List (List Int)) (w : World) (hA : RdC w w.heap.size A l) (hM : RdI w w.heap.size M m) (hP : RdO w w.heap.size P As cs os) (hl : l.length ≤ 1000000000) (hml : m.length ≤ 1000000000) (hol : os.length ≤ 1000000000) (hos : ∀ i, i < os.length → (os.getD i []).length ≤ 1000000000) :
    Calls Tryz.prog 7 #[.slice A l.length ca, .int .i64 n, .slice M m.length cm, .slice P os.length pc] w fun e w' => e = .returned (.bool (sameB l n m os)) ∧ Below w.heap.size w w' := by
  have HCR := Lib.hid (sl8Ok_c A M ca cm l n m w hA hM hl hml)
  have HSL := Lib.hid (fun W a b => sRunLeast_c A M ca cm l n m W a b hl hml)
  have HOS := Lib.hid hos
  clear hos
  cases hlo : lockOk l n m with
  | false =>
    have HV := Lib.hid (show sameB l n m os = false by simp [sameB, hlo])
    go_enter Tryz.func7, Tryz.ntmps7
    go_wp2_with fail
    refine HCR.out.mono ?_
    rintro e w1 ⟨rfl, b1⟩
    rw [hlo]
    have HB := Lib.hid b1
    clear b1
    go_wp2
    go_ret
    exact ⟨retb HV.out.symm, HB.out⟩
  | true =>
    by_cases h6 : os.length ≤ 6
    · have h6I : ¬ (6 : Int) < (os.length : Int) := by omega
      have HV := Lib.hid (same_spec hlo h6)
      have HLL := Lib.hid (leastM_ok hlo)
      have HSO := Lib.hid (fun X cx xs W a b d => sRunOrder_c A M X ca cm cx l n m xs W a b d hl hml)
      have HOL := Lib.hid (fun xs => orderM_len l n m xs)
      unfold GmP at HSL HSO
      generalize leastM l n m = V at *
      generalize (orderM l n m) = F at *
      have hvl : V.length ≤ 1000000000 := by have := HLL.out.1; omega
      have HA := Lib.hid hA
      have HM := Lib.hid hM
      clear hA hM
      go_enter Tryz.func7, Tryz.ntmps7
      go_wp2_with fail
      refine HCR.out.mono ?_
      rintro e w1 ⟨rfl, b1⟩
      rw [hlo]
      clear HCR hlo
      go_wp2_with fail
      refine (HSL.out w1 ((HA.out.below b1).more b1.size) ((HM.out.below b1).more b1.size)).mono ?_
      rintro e w2 ⟨X, xc, rfl, oX, b2⟩
      have hB := below_trans b1 (Nat.le_refl _) b2
      have vX := OwI.rd oX
      clear b1 b2 oX HSL
      have HX := Lib.hid vX
      have HB := Lib.hid hB
      clear vX hB
      go_wp2
      go_loopw [10] (fun kv wr => ∃ k : Nat, k ≤ os.length ∧ kv = .int .i64 k ∧ Hid ((os.take k).all (fun o => intsEq (F o) V) = true) ∧ Below w2.heap.size w2 wr) (fun kv _ => os.length - (intOf kv).toNat)
      case atStart => exact ⟨0, Nat.zero_le _, rfl, Lib.hid (by simp), Below.refl _ _⟩
      case round =>
        obtain ⟨k, hk, rfl, HT, hb⟩ := hrel
        have hbw := below_trans HB.out (Nat.le_refl _) hb
        by_cases hlt : k < os.length
        · have hkI : (k : Int) < (os.length : Int) := by omega
          have hPr := (hP.below hbw).more hbw.size
          obtain ⟨pb, po, rfl, hpB, p0⟩ := hPr.at_ hlt
          have hin := hPr.inn k hlt
          have hpl := HOS.out k hlt
          have HTK := Lib.hid (all_take hlt HT.out)
          have HMI := Lib.hid (fun h => all_miss (g := fun o => intsEq (F o) V) hlt h)
          have hAr := (HA.out.below hbw).more hbw.size
          have hMr := (HM.out.below hbw).more hbw.size
          have hXr := (HX.out.below hb).more hb.size
          clear hPr
          generalize os.getD k [] = o at *
          have hFl := HOL.out o
          obtain ⟨R, hFe⟩ : ∃ R, F o = R := ⟨_, rfl⟩
          rw [hFe] at hFl
          have HSR := Lib.hid (fun W a b d => by have h := HSO.out (As k) (cs k) o W a b d hpl; rw [hFe] at h; exact h)
          have HFE := Lib.hid hFe
          clear hFe
          go_wp2_with fail
          refine (HSR.out wr hAr hMr hin).mono ?_
          rintro e w3 ⟨Y, yc, rfl, oY, b3⟩
          have hbw3 := below_trans hb (Nat.le_refl _) b3
          have rY := OwI.rd oY
          have rX := (hXr.below b3).more b3.size
          have HBW := Lib.hid (below_trans HB.out (Nat.le_refl _) hbw3)
          have HB3 := Lib.hid hbw3
          clear oY b3 hbw3 hbw hb hXr hAr hMr hin p0
          by_cases hlen : R.length = V.length
          · have HTK2 : Hid ((os.take (k + 1)).all (fun o => intsEq (F o) V) = intsEq R V) := Lib.hid (by rw [← HFE.out]; exact HTK.out)
            have HMI2 : Hid (intsEq R V = false → sameB l n m os = false) := Lib.hid (fun h => by rw [HV.out]; exact HMI.out (by rw [← HFE.out] at h; exact h))
            clear HTK HMI HFE
            have hlI : ((R.length : Int) != (V.length : Int)) = false := by rw [hlen]; simp
            have HLEN := Lib.hid hlen
            clear hlen
            go_wp2
            go_loopw [12] (fun jv wr => ∃ j : Nat, j ≤ V.length ∧ jv = .int .i64 j ∧ Hid (intsEq R V = intsEq (R.drop j) (V.drop j)) ∧ Below w3.heap.size w3 wr) (fun jv _ => V.length - (intOf jv).toNat)
            case atStart => exact ⟨0, Nat.zero_le _, rfl, Lib.hid rfl, Below.refl _ _⟩
            case round =>
              obtain ⟨j, hj, rfl, HE, hb⟩ := hrel
              by_cases hjlt : j < V.length
              · have hjI : (j : Int) < (V.length : Int) := by omega
                obtain ⟨yb, yo, x, rfl, hyB, hx, c0⟩ := (rY.below hb).at_ (by have := HLEN.out; omega : j < R.length)
                obtain ⟨xb, xo, y, rfl, hxB, hy, d0⟩ := (rX.below hb).at_ hjlt
                have hjR : j < R.length := by have := HLEN.out; omega
                have HXX := Lib.hid hx
                have HYY := Lib.hid hy
                clear hx hy
                cases he : x == y with
                | false =>
                  have hn : (x != y) = true := by simp [bne, he]
                  have HN := Lib.hid he
                  clear he
                  go_wp2_with fail
                  go_quiet (fail)
                  go_wp2
                  go_ret
                  exact ⟨retb (by rw [HMI2.out (by rw [HE.out, intsEq_step HXX.out HYY.out, HN.out]; rfl)]), below_trans HBW.out (Nat.le_refl _) (hb.trans ⟨rfl, rfl, rfl, Nat.le_refl _, fun _ _ => rfl⟩)⟩
                | true =>
                  have hn : (x != y) = false := by simp [bne, he]
                  have HN := Lib.hid he
                  clear he
                  go_wp2_with fail
                  go_quiet (fail)
                  go_wp2
                  go_roundw
                  case rel => exact ⟨j + 1, by omega, by go_num, Lib.hid (by rw [HE.out, intsEq_step HXX.out HYY.out, HN.out]; rfl), hb.trans ⟨rfl, rfl, rfl, Nat.le_refl _, fun _ _ => rfl⟩⟩
                  case measure => simp [intOf]; omega
              · obtain rfl : j = V.length := by omega
                have HTT := Lib.hid (show (os.take (k + 1)).all (fun o => intsEq (F o) V) = true by
                  rw [HTK2.out, HE.out, List.drop_of_length_le (by have := HLEN.out; omega), List.drop_length]; rfl)
                have HB4 := Lib.hid (below_trans HB3.out (Nat.le_refl _) hb)
                clear hb HE
                go_wp2
                go_roundw
                case rel => exact ⟨k + 1, by omega, by go_num, HTT, HB4.out⟩
                case measure => simp [intOf]; omega
          · have HV2 : Hid (sameB l n m os = false) := Lib.hid (by rw [HV.out]; exact HMI.out (by rw [← HFE.out] at hlen; exact intsEq_len _ _ hlen))
            have hlI : ((R.length : Int) != (V.length : Int)) = true := by rw [bne_iff_ne]; omega
            clear HTK HMI HFE hlen
            go_wp2
            go_ret
            exact ⟨retb HV2.out.symm, HBW.out⟩
        · obtain rfl : k = os.length := by omega
          have HV2 := Lib.hid (show sameB l n m os = true by rw [HV.out]; have := HT.out; rwa [List.take_length] at this)
          have HBW := Lib.hid hbw
          clear hbw hb
          go_wp2
          go_ret
          exact ⟨retb HV2.out.symm, HBW.out⟩
    · have h6I : (6 : Int) < (os.length : Int) := by omega
      have HV := Lib.hid (show sameB l n m os = false by simp [sameB, h6])
      go_enter Tryz.func7, Tryz.ntmps7
      go_wp2_with fail
      refine HCR.out.mono ?_
      rintro e w1 ⟨rfl, b1⟩
      rw [hlo]
      have HB := Lib.hid b1
      clear b1
      go_wp2
      go_ret
      exact ⟨retb HV.out.symm, HB.out⟩


def DBlkPost (w0 : World) (B g K LN PN : Nat) (e : Ending) (w' : World) : Prop := ∃ (A : Option Addr) (n c : Nat), e = .returned (.slice A n c) ∧ n ≤ LN ∧ DSx w0 B g (K + PN) A n c w'
def DBRel (w0 : World) (B g K LR PR : Nat) (ov kv : Value) (wr : World) : Prop :=
  ∃ (t j : Nat) (A : Option Addr) (n c : Nat), j + t ≤ 6 ∧ kv = .int .i64 j ∧ ov = .slice A n c ∧ n ≤ t * LR ∧ DSx w0 B g (K + 1 + t * PR) A n c wr

set_option maxRecDepth 100000 in
set_option maxHeartbeats 8000000 in
theorem block_step {LN PN KR KB : Nat} (hKB : KB + 20000000 ≤ KR) (hKR : KR ≤ 90000000) (hLN : LN ≤ 100000) (hPN : PN ≤ 1000000) (d : Nat) (hd : d ≤ 3)
    (hrec : d < 3 → ∀ (w : World) (B g K : Nat) (room : Int), RdS w B g K → K ≤ KR → -1000000 ≤ room → room ≤ 1000000 →
      Calls Tryz.prog 80 #[.pointer (some ⟨g, 0, none⟩), .int .i64 room, .int .i64 ((d : Int) + 1)] w (DBlkPost w B g K LN PN))
    {w : World} {B g K : Nat} (room : Int) (h : RdS w B g K) (hK : K ≤ KB) (hr1 : -1000000 ≤ room) (hr2 : room ≤ 1000000) :
    Calls Tryz.prog 80 #[.pointer (some ⟨g, 0, none⟩), .int .i64 room, .int .i64 d] w (DBlkPost w B g K (6 * (5 + 2 * LN)) (1 + 6 * (12 + 2 * PN))) := by
  have hgw := h.lt
  have HREC := Lib.hid hrec
  obtain ⟨LR, hLR⟩ : ∃ LR, 5 + 2 * LN = LR := ⟨_, rfl⟩
  obtain ⟨PR, hPR⟩ : ∃ PR, 12 + 2 * PN = PR := ⟨_, rfl⟩
  rw [hLR, hPR]
  have D0 := DSx.start h
  clear hrec
  go_enter Tryz.func80, Tryz.ntmps80
  go_wp2_with fail
  have hs0 : w.heap.size < (w.alloc (.cells #[] 76)).heap.size := by simp
  refine (pick_i D0.rd (by omega) _ (by decide) (by decide)).mono ?_
  rintro e w1 ⟨v0, rfl, hv0, hR1, hg1, hs1, -⟩
  have D1 := D0.pick hR1 hg1
  clear h D0
  generalize hz0 : w.heap.size = z0 at *
  go_wp2
  go_loopw [7, 8] (fun ov kv wr => DBRel w B g K LR PR ov kv wr) (fun _ kv _ => (intOf kv).toNat)
  case atStart => exact ⟨0, v0 + 1, some ⟨z0, 0, none⟩, 0, 0, by omega, by go_num, rfl, by omega, by simpa using D1⟩
  case round =>
    clear D1 hs0 hs1 hg1 hR1
    obtain ⟨t, j, A, n, c, hjt, rfl, rfl, hn, D⟩ := hrel
    have et : (t + 1) * LR = t * LR + LR := Nat.succ_mul t LR
    have ep : (t + 1) * PR = t * PR + PR := Nat.succ_mul t PR
    have bt : t * LR ≤ 6 * LR := Nat.mul_le_mul_right _ (by omega)
    have bp : t * PR ≤ 6 * PR := Nat.mul_le_mul_right _ (by omega)
    have HE := Lib.hid et
    have HP := Lib.hid ep
    generalize t * LR = tl at *
    generalize t * PR = tp at *
    clear et ep
    by_cases hj : 0 < j
    · by_cases hrm : (n : Int) < room
      · go_wp2_with fail
        refine (pick_i D.rd (by omega) _ (by decide) (by decide)).mono ?_
        rintro e w2 ⟨v, rfl, hv, hR2, hg2, -, -⟩
        have D2 := D.pick hR2 hg2
        clear D hR2 hg2
        have hcase : v = 0 ∨ v = 1 ∨ v = 2 ∨ 3 ≤ v := by omega
        rcases hcase with rfl | rfl | rfl | h3
        · by_cases hg3 : d < 3
          · by_cases hrm2 : (6 : Int) ≤ room - n
            · skip
              go_wp2_with fail
              refine (pick_i D2.rd (by omega) _ (by decide) (by decide)).mono ?_
              rintro e w11 ⟨v11, rfl, hv11, hR, hg, -, -⟩
              have D11 := D2.pick hR hg
              clear D2 hR hg
              go_wp2_with (at_builtin; refine app_lit D11 rfl _ _ rfl rfl _ _ 1 _ [⟨11, (v11 : Int), 0, 0⟩] rfl rfl rfl (by omega) ?_)
              intro A12 c12 w12 D12
              clear D11
              go_wp2_with fail
              refine (pick_i D12.rd (by omega) _ (by decide) (by decide)).mono ?_
              rintro e w13 ⟨v13, rfl, hv13, hR, hg, -, -⟩
              have D13 := D12.pick hR hg
              clear D12 hR hg
              by_cases hv30 : v13 = 0
              · subst hv30
                go_wp2_with fail
                refine (pick_i D13.rd (by omega) _ (by decide) (by decide)).mono ?_
                rintro e w14 ⟨v14, rfl, hv14, hR, hg, -, -⟩
                have D14 := D13.pick hR hg
                clear D13 hR hg
                go_wp2_with fail
                refine (pick_i D14.rd (by omega) _ (by decide) (by decide)).mono ?_
                rintro e w15 ⟨v15, rfl, hv15, hR, hg, -, -⟩
                have D15 := D14.pick hR hg
                clear D14 hR hg
                go_wp2_with (at_builtin; refine app_lit D15 rfl _ _ rfl rfl _ _ 1 _ [⟨5, (v14 : Int), (v15 : Int), 0⟩] rfl rfl rfl (by omega) ?_)
                intro A16 c16 w16 D16
                clear D15
                by_cases hrm4 : (4 : Int) ≤ room - ((n + 1 + 1 : Nat) : Int)
                · skip
                  go_wp2_with fail
                  refine (pick_i D16.rd (by omega) _ (by decide) (by decide)).mono ?_
                  rintro e w17 ⟨v17, rfl, hv17, hR, hg, -, -⟩
                  have D17 := D16.pick hR hg
                  clear D16 hR hg
                  by_cases hv0 : v17 = 0
                  · subst hv0
                    go_wp2_with (at_builtin; refine app_lit D17 rfl _ _ rfl rfl _ _ 1 _ [⟨12, 0, 0, 0⟩] rfl rfl rfl (by omega) ?_)
                    intro A18 c18 w18 D18
                    clear D17
                    go_upto_region 15 with fail
                    go_cut [7] from 13 to 148 (fun s7 wx => ∃ (A' : Option Addr) (n' c' : Nat), s7 = .slice A' n' c' ∧ n' ≤ (n + 1 + 1 + 1) + LN ∧ DSx w B g (K + 1 + tp + 6 + PN) A' n' c' wx)
                    case first =>
                      go_wp2_with fail
                      all_goals
                        refine (HREC.out (by omega) _ B g _ _ D18.rd (by omega) (by omega) (by omega)).mono ?_
                        rintro e w19 ⟨A19, n19, c19, rfl, hn19, E19⟩
                        have D19 := D18.inner E19
                        obtain ⟨l19, hl19, rl19, nl19⟩ := E19.reads
                        clear E19
                        go_wp2_with (at_builtin; refine app_ds D19 rfl _ _ rfl rfl _ _ _ l19 rfl hl19 nl19 rl19 (by omega) ?_)
                        intro A20 c20 w20 D20
                        go_wp2_with fail
                        go_meet
                        exact ⟨_, _, _, rfl, by omega, D20.more (by omega)⟩
                    obtain ⟨A21, n21, c21, rfl, hn21, D21⟩ := hcut
                    clear D18
                    generalize wc = w21 at *
                    go_wp2_with (at_builtin; refine app_lit D21 rfl _ _ rfl rfl _ _ 1 _ [⟨14, 0, 0, 0⟩] rfl rfl rfl (by omega) ?_)
                    intro A22 c22 w22 D22
                    clear D21
                    go_wp2
                    go_roundw
                    case rel => exact ⟨t + 1, j - 1, _, _, _, by omega, by go_num, rfl, by have := HE.out; omega, by obtain ⟨l, q1, q2, q3, q4⟩ := D22; exact ⟨l, q1, q2.more (by have := HP.out; omega), q3, q4⟩⟩
                    case measure => (simp [intOf] <;> omega)
                  · have hvb : ((v17 : Int) == 0) = false := by rw [beq_eq_false_iff_ne]; omega
                    go_wp2_with (at_builtin; refine app_lit D17 rfl _ _ rfl rfl _ _ 1 _ [⟨14, 0, 0, 0⟩] rfl rfl rfl (by omega) ?_)
                    intro A23 c23 w23 D23
                    clear D17
                    go_wp2
                    go_roundw
                    case rel => exact ⟨t + 1, j - 1, _, _, _, by omega, by go_num, rfl, by have := HE.out; omega, by obtain ⟨l, q1, q2, q3, q4⟩ := D23; exact ⟨l, q1, q2.more (by have := HP.out; omega), q3, q4⟩⟩
                    case measure => (simp [intOf] <;> omega)
                · exfalso
                  omega
              · have hvb : ((v13 : Int) == 0) = false := by rw [beq_eq_false_iff_ne]; omega
                go_upto_region 12 with fail
                go_cut [7] from 13 to 148 (fun s7 wx => ∃ (A' : Option Addr) (n' c' : Nat), s7 = .slice A' n' c' ∧ n' ≤ (n + 1) + LN ∧ DSx w B g (K + 1 + tp + 3 + PN) A' n' c' wx)
                case first =>
                  go_wp2_with fail
                  all_goals
                    refine (HREC.out (by omega) _ B g _ _ D13.rd (by omega) (by omega) (by omega)).mono ?_
                    rintro e w24 ⟨A24, n24, c24, rfl, hn24, E24⟩
                    have D24 := D13.inner E24
                    obtain ⟨l24, hl24, rl24, nl24⟩ := E24.reads
                    clear E24
                    go_wp2_with (at_builtin; refine app_ds D24 rfl _ _ rfl rfl _ _ _ l24 rfl hl24 nl24 rl24 (by omega) ?_)
                    intro A25 c25 w25 D25
                    go_wp2_with fail
                    go_meet
                    exact ⟨_, _, _, rfl, by omega, D25.more (by omega)⟩
                obtain ⟨A26, n26, c26, rfl, hn26, D26⟩ := hcut
                clear D13
                generalize wc = w26 at *
                by_cases hrm4 : (4 : Int) ≤ room - ((n26 : Nat) : Int)
                · skip
                  go_wp2_with fail
                  refine (pick_i D26.rd (by omega) _ (by decide) (by decide)).mono ?_
                  rintro e w27 ⟨v27, rfl, hv27, hR, hg, -, -⟩
                  have D27 := D26.pick hR hg
                  clear D26 hR hg
                  by_cases hv0 : v27 = 0
                  · subst hv0
                    go_wp2_with (at_builtin; refine app_lit D27 rfl _ _ rfl rfl _ _ 1 _ [⟨12, 0, 0, 0⟩] rfl rfl rfl (by omega) ?_)
                    intro A28 c28 w28 D28
                    clear D27
                    go_upto_region 15 with fail
                    go_cut [7] from 13 to 148 (fun s7 wx => ∃ (A' : Option Addr) (n' c' : Nat), s7 = .slice A' n' c' ∧ n' ≤ (n26 + 1) + LN ∧ DSx w B g (K + 1 + tp + 4 + PN + PN) A' n' c' wx)
                    case first =>
                      go_wp2_with fail
                      all_goals
                        refine (HREC.out (by omega) _ B g _ _ D28.rd (by omega) (by omega) (by omega)).mono ?_
                        rintro e w29 ⟨A29, n29, c29, rfl, hn29, E29⟩
                        have D29 := D28.inner E29
                        obtain ⟨l29, hl29, rl29, nl29⟩ := E29.reads
                        clear E29
                        go_wp2_with (at_builtin; refine app_ds D29 rfl _ _ rfl rfl _ _ _ l29 rfl hl29 nl29 rl29 (by omega) ?_)
                        intro A30 c30 w30 D30
                        go_wp2_with fail
                        go_meet
                        exact ⟨_, _, _, rfl, by omega, D30.more (by omega)⟩
                    obtain ⟨A31, n31, c31, rfl, hn31, D31⟩ := hcut
                    clear D28
                    generalize wc = w31 at *
                    go_wp2_with (at_builtin; refine app_lit D31 rfl _ _ rfl rfl _ _ 1 _ [⟨14, 0, 0, 0⟩] rfl rfl rfl (by omega) ?_)
                    intro A32 c32 w32 D32
                    clear D31
                    go_wp2
                    go_roundw
                    case rel => exact ⟨t + 1, j - 1, _, _, _, by omega, by go_num, rfl, by have := HE.out; omega, by obtain ⟨l, q1, q2, q3, q4⟩ := D32; exact ⟨l, q1, q2.more (by have := HP.out; omega), q3, q4⟩⟩
                    case measure => (simp [intOf] <;> omega)
                  · have hvb : ((v27 : Int) == 0) = false := by rw [beq_eq_false_iff_ne]; omega
                    go_wp2_with (at_builtin; refine app_lit D27 rfl _ _ rfl rfl _ _ 1 _ [⟨14, 0, 0, 0⟩] rfl rfl rfl (by omega) ?_)
                    intro A33 c33 w33 D33
                    clear D27
                    go_wp2
                    go_roundw
                    case rel => exact ⟨t + 1, j - 1, _, _, _, by omega, by go_num, rfl, by have := HE.out; omega, by obtain ⟨l, q1, q2, q3, q4⟩ := D33; exact ⟨l, q1, q2.more (by have := HP.out; omega), q3, q4⟩⟩
                    case measure => (simp [intOf] <;> omega)
                · skip
                  go_wp2_with (at_builtin; refine app_lit D26 rfl _ _ rfl rfl _ _ 1 _ [⟨14, 0, 0, 0⟩] rfl rfl rfl (by omega) ?_)
                  intro A34 c34 w34 D34
                  clear D26
                  go_wp2
                  go_roundw
                  case rel => exact ⟨t + 1, j - 1, _, _, _, by omega, by go_num, rfl, by have := HE.out; omega, by obtain ⟨l, q1, q2, q3, q4⟩ := D34; exact ⟨l, q1, q2.more (by have := HP.out; omega), q3, q4⟩⟩
                  case measure => (simp [intOf] <;> omega)
            · skip
              go_wp2
              go_roundw
              case rel => exact ⟨t + 1, j - 1, _, _, _, by omega, by go_num, rfl, by have := HE.out; omega, by obtain ⟨l, q1, q2, q3, q4⟩ := D2; exact ⟨l, q1, q2.more (by have := HP.out; omega), q3, q4⟩⟩
              case measure => (simp [intOf] <;> omega)
          · skip
            go_wp2
            go_roundw
            case rel => exact ⟨t + 1, j - 1, _, _, _, by omega, by go_num, rfl, by have := HE.out; omega, by obtain ⟨l, q1, q2, q3, q4⟩ := D2; exact ⟨l, q1, q2.more (by have := HP.out; omega), q3, q4⟩⟩
            case measure => (simp [intOf] <;> omega)
        · by_cases hg3 : d < 3
          · by_cases hrm2 : (5 : Int) ≤ room - n
            · skip
              go_wp2_with fail
              refine (pick_i D2.rd (by omega) _ (by decide) (by decide)).mono ?_
              rintro e w35 ⟨v35, rfl, hv35, hR, hg, -, -⟩
              have D35 := D2.pick hR hg
              clear D2 hR hg
              go_wp2_with fail
              refine (pick_i D35.rd (by omega) _ (by decide) (by decide)).mono ?_
              rintro e w36 ⟨v36, rfl, hv36, hR, hg, -, -⟩
              have D36 := D35.pick hR hg
              clear D35 hR hg
              have hw1 : IntKind.i64.wrap (1 + (v36 : Int)) = 1 + (v36 : Int) := IntWalk.i64_in _ (by omega)
              go_wp2_with (at_builtin; refine app_lit D36 rfl _ _ rfl rfl _ _ 1 _ [⟨13, (v35 : Int), 1 + (v36 : Int), 0⟩] rfl rfl rfl (by omega) ?_)
              intro A37 c37 w37 D37
              clear D36
              go_upto_region 20 with fail
              go_cut [7] from 13 to 148 (fun s7 wx => ∃ (A' : Option Addr) (n' c' : Nat), s7 = .slice A' n' c' ∧ n' ≤ (n + 1) + LN ∧ DSx w B g (K + 1 + tp + 3 + PN) A' n' c' wx)
              case first =>
                go_wp2_with fail
                all_goals
                  refine (HREC.out (by omega) _ B g _ _ D37.rd (by omega) (by omega) (by omega)).mono ?_
                  rintro e w38 ⟨A38, n38, c38, rfl, hn38, E38⟩
                  have D38 := D37.inner E38
                  obtain ⟨l38, hl38, rl38, nl38⟩ := E38.reads
                  clear E38
                  go_wp2_with (at_builtin; refine app_ds D38 rfl _ _ rfl rfl _ _ _ l38 rfl hl38 nl38 rl38 (by omega) ?_)
                  intro A39 c39 w39 D39
                  go_wp2_with fail
                  go_meet
                  exact ⟨_, _, _, rfl, by omega, D39.more (by omega)⟩
              obtain ⟨A40, n40, c40, rfl, hn40, D40⟩ := hcut
              clear D37
              generalize wc = w40 at *
              go_wp2_with (at_builtin; refine app_lit D40 rfl _ _ rfl rfl _ _ 1 _ [⟨14, 0, 0, 0⟩] rfl rfl rfl (by omega) ?_)
              intro A41 c41 w41 D41
              clear D40
              go_wp2
              go_roundw
              case rel => exact ⟨t + 1, j - 1, _, _, _, by omega, by go_num, rfl, by have := HE.out; omega, by obtain ⟨l, q1, q2, q3, q4⟩ := D41; exact ⟨l, q1, q2.more (by have := HP.out; omega), q3, q4⟩⟩
              case measure => (simp [intOf] <;> omega)
            · skip
              go_wp2
              go_roundw
              case rel => exact ⟨t + 1, j - 1, _, _, _, by omega, by go_num, rfl, by have := HE.out; omega, by obtain ⟨l, q1, q2, q3, q4⟩ := D2; exact ⟨l, q1, q2.more (by have := HP.out; omega), q3, q4⟩⟩
              case measure => (simp [intOf] <;> omega)
          · skip
            go_wp2
            go_roundw
            case rel => exact ⟨t + 1, j - 1, _, _, _, by omega, by go_num, rfl, by have := HE.out; omega, by obtain ⟨l, q1, q2, q3, q4⟩ := D2; exact ⟨l, q1, q2.more (by have := HP.out; omega), q3, q4⟩⟩
            case measure => (simp [intOf] <;> omega)
        · by_cases hd0 : d = 0
          · have hdb : ((d : Int) == 0) = true := by rw [hd0]; rfl
            go_wp2_with (at_builtin; refine app_lit D2 rfl _ _ rfl rfl _ _ 1 _ [⟨10, 0, 0, 0⟩] rfl rfl rfl (by omega) ?_)
            intro A42 c42 w42 D42
            clear D2
            go_wp2
            subst hd0
            have e0 : ((0 : Nat) : Int) = 0 := rfl
            simp only [e0]
            go_roundw
            case rel => exact ⟨t + 1, j - 1, _, _, _, by omega, by go_num, rfl, by have := HE.out; omega, by obtain ⟨l, q1, q2, q3, q4⟩ := D42; exact ⟨l, q1, q2.more (by have := HP.out; omega), q3, q4⟩⟩
            case measure => (simp [intOf] <;> omega)
          · have hdb : ((d : Int) == 0) = false := by rw [beq_eq_false_iff_ne]; omega
            go_wp2_with fail
            refine (pick_i D2.rd (by omega) _ (by decide) (by decide)).mono ?_
            rintro e w43 ⟨v43, rfl, hv43, hR, hg, -, -⟩
            have D43 := D2.pick hR hg
            clear D2 hR hg
            by_cases hv0 : v43 = 0
            · subst hv0
              go_wp2_with (at_builtin; refine app_lit D43 rfl _ _ rfl rfl _ _ 1 _ [⟨10, 0, 0, 0⟩] rfl rfl rfl (by omega) ?_)
              intro A44 c44 w44 D44
              clear D43
              go_wp2
              go_roundw
              case rel => exact ⟨t + 1, j - 1, _, _, _, by omega, by go_num, rfl, by have := HE.out; omega, by obtain ⟨l, q1, q2, q3, q4⟩ := D44; exact ⟨l, q1, q2.more (by have := HP.out; omega), q3, q4⟩⟩
              case measure => (simp [intOf] <;> omega)
            · have hvb : ((v43 : Int) == 0) = false := by rw [beq_eq_false_iff_ne]; omega
              go_wp2
              go_roundw
              case rel => exact ⟨t + 1, j - 1, _, _, _, by omega, by go_num, rfl, by have := HE.out; omega, by obtain ⟨l, q1, q2, q3, q4⟩ := D43; exact ⟨l, q1, q2.more (by have := HP.out; omega), q3, q4⟩⟩
              case measure => (simp [intOf] <;> omega)
        · have b0 : ((v : Int) == 0) = false := by rw [beq_eq_false_iff_ne]; omega
          have b1 : ((v : Int) == 1) = false := by rw [beq_eq_false_iff_ne]; omega
          have b2 : ((v : Int) == 2) = false := by rw [beq_eq_false_iff_ne]; omega
          go_wp2_with fail
          refine (l20Plain_c D2.rd (by omega)).mono ?_
          rintro e w3 ⟨⟨xo, xa, xb, xc⟩, rfl, hR, hg⟩
          dsimp only [Cd.val]
          have D3 := D2.pick hR hg
          clear D2 hR hg
          go_wp2_with (at_builtin; refine app_lit D3 rfl _ _ rfl rfl _ _ 1 _ [⟨xo, xa, xb, xc⟩] rfl rfl rfl (by omega) ?_)
          intro A45 c45 w45 D45
          clear D3
          go_wp2
          go_roundw
          case rel => exact ⟨t + 1, j - 1, _, _, _, by omega, by go_num, rfl, by have := HE.out; omega, by obtain ⟨l, q1, q2, q3, q4⟩ := D45; exact ⟨l, q1, q2.more (by have := HP.out; omega), q3, q4⟩⟩
          case measure => (simp [intOf] <;> omega)
      · go_wp2
        go_ret
        refine ⟨_, _, _, rfl, by omega, ?_⟩
        obtain ⟨l, q1, q2, q3, q4⟩ := D
        exact ⟨l, q1, q2.more (by omega), q3, q4⟩
    · obtain rfl : j = 0 := by omega
      go_wp2
      go_ret
      refine ⟨_, _, _, rfl, by omega, ?_⟩
      obtain ⟨l, q1, q2, q3, q4⟩ := D
      exact ⟨l, q1, q2.more (by omega), q3, q4⟩

end Go.Proofs.YtelbfeidpcojmaaGreat
