/- Part 13 of what the claim needs. -/
import Derived.Test.YtelbfeidpcojmaaGreatSa8
import Derived.StillTailTactics
import Derived.IntWalk
import Derived.Deep.RegionHeld3
import Derived.Deep.RegionLaw
import Derived.Deep.AppendLies
namespace Go.Proofs.YtelbfeidpcojmaaGreat
open Go.RowKit
set_option linter.unusedVariables false
set_option linter.unusedSimpArgs false

theorem grown_drew2' {w w' : World} {row : Option Nat} (h : w.drew.grownBy w' row) : w.grownBy w' row := ⟨h.os, h.tape, h.output, h.size, h.block⟩
theorem addAcc_exec {x : Cd} {s : LS} {k : Nat} {q : Acc} (hm : memOp x = true) (hq : q = ⟨k, (s.reg k x.b % s.mem.length).toNat, x.op == 9, s.phase⟩) :
    ({ addAcc q s with regs := (addAcc q s).regs.set k (simp1 x k ((addAcc q s).regs.getD k []) (addAcc q s).mem).1, mem := (simp1 x k ((addAcc q s).regs.getD k []) (addAcc q s).mem).2 } : LS) = exec1 x s k := by
  subst hq
  simp only [exec1, hm, if_true, addAcc]
theorem noAcc_exec {x : Cd} {s : LS} {k : Nat} (hm : memOp x = false) :
    ({ s with regs := s.regs.set k (simp1 x k (s.regs.getD k []) s.mem).1, mem := (simp1 x k (s.regs.getD k []) s.mem).2 } : LS) = exec1 x s k := by
  simp only [exec1, hm]; rfl
theorem SOk.acc {n : Nat} {s : LS} (h : SOk n s) (q : Acc) : SOk n (addAcc q s) := ⟨h.n8, h.len, h.four, h.memw, h.mem1, h.mem2⟩

/-- One instruction of lane k whose access has been noted. -/
theorem IR.simpA {w w' : World} {z : IW} {T U : Option Addr} {tc uc : Nat} {s : LS} {q : Acc} {x : Cd} {k : Nat} (h : IR w z T tc U uc (addAcc q s)) (hk : k < z.n) (hok : SOk z.n s) (hB : z.B ≤ w.heap.size) (hm : memOp x = true)
    (hq : q = ⟨k, (s.reg k x.b % s.mem.length).toNat, x.op == 9, s.phase⟩) (hs : Simp1 w z.B (z.rk k) 4 z.mb s.mem.length z.mc x k (s.regs.getD k []) s.mem w') : IR w' z T tc U uc (exec1 x s k) ∧ StI z.B w w' := by
  have hok2 : SOk z.n (addAcc q s) := hok.acc q
  have := h.simp (x := x) (k := k) (mn := s.mem.length) hk hok2 rfl hB (r := s.regs.getD k []) rfl hs
  rw [addAcc_exec hm hq] at this
  exact this
theorem IR.innA {w : World} {z : IW} {T U : Option Addr} {tc uc : Nat} {s : LS} {q : Acc} (h : IR w z T tc U uc (addAcc q s)) {k : Nat} (hk : k < z.n) : OI w z.B (some ⟨z.rk k, 0, none⟩) 4 4 (s.regs.getD k []) := h.inn k hk
theorem IR.memA {w : World} {z : IW} {T U : Option Addr} {tc uc : Nat} {s : LS} {q : Acc} (h : IR w z T tc U uc (addAcc q s)) : OI w z.B (some ⟨z.mb, 0, none⟩) s.mem.length z.mc s.mem := h.mem

theorem keep_acc {w : World} {g r q c k xb : Nat} {v v1 v2 v5 vr vq v0 vx : Value} (n1 : g ≠ r) (n2 : g ≠ q) (n3 : g ≠ c)
    (h : w.cell? ⟨g, 1, none⟩ = some v1 ∧ w.cell? ⟨g, 2, none⟩ = some v2 ∧ w.cell? ⟨g, 5, none⟩ = some v5 ∧ w.cell? ⟨r, k, none⟩ = some vr ∧ w.cell? ⟨q, xb, none⟩ = some vq ∧ w.cell? ⟨c, 0, none⟩ = some v0 ∧ w.cell? ⟨c, 2, none⟩ = some vx) :
    (w.setCell ⟨g, 4, none⟩ v).cell? ⟨g, 1, none⟩ = some v1 ∧ (w.setCell ⟨g, 4, none⟩ v).cell? ⟨g, 2, none⟩ = some v2 ∧ (w.setCell ⟨g, 4, none⟩ v).cell? ⟨g, 5, none⟩ = some v5 ∧ (w.setCell ⟨g, 4, none⟩ v).cell? ⟨r, k, none⟩ = some vr ∧
      (w.setCell ⟨g, 4, none⟩ v).cell? ⟨q, xb, none⟩ = some vq ∧ (w.setCell ⟨g, 4, none⟩ v).cell? ⟨c, 0, none⟩ = some v0 ∧ (w.setCell ⟨g, 4, none⟩ v).cell? ⟨c, 2, none⟩ = some vx := by
  obtain ⟨h1, h2, h3, h4, h5, h6, h7⟩ := h
  refine ⟨?_, ?_, ?_, ?_, ?_, ?_, ?_⟩ <;> (rw [World.cell?_setCell_other (h := fun e => by injection e; omega)]; assumption)

def ExRel (w : World) (z : IW) (x : Cd) (m : Nat) (s : LS) (T : Option Addr) (tc : Nat) (L : Option Addr) (lc : Nat) (jv : Value) (wr : World) : Prop :=
  ∃ (j : Nat) (U : Option Addr) (uc : Nat) (sj : LS), j ≤ (lanesOf m).length ∧ jv = .int .i64 j ∧ Hid (sj = foldTo (exec1 x) m s j) ∧ IR wr z T tc U uc sj ∧ SOk z.n sj ∧ sj.accs.length ≤ s.accs.length + j ∧ sj.phase = s.phase ∧
    OI wr w.heap.size L (lanesOf m).length lc (lanesI m) ∧ Hid (wr.heap[w.heap.size]? = some (.cells #[.int .i64 x.op, .int .i64 x.a, .int .i64 x.b, .int .i64 x.c] 76 (0, 0))) ∧ StI z.B w wr

set_option maxRecDepth 100000 in
set_option maxHeartbeats 8000000 in
theorem execute_c {w : World} {z : IW} {T U : Option Addr} {tc uc : Nat} {s : LS} (h : IR w z T tc U uc s) (hok : SOk z.n s) {p : Nat} {x : Cd} (hx : z.l[p]? = some x) (hv : cvOk x = true) (h10 : x.op ≤ 10) (m : Nat) (hm : m < 2 ^ z.n)
    (hacc : s.accs.length ≤ 100000000000) (hph : s.phase ≤ 1000000000) (hB : z.B ≤ w.heap.size) (hl40 : z.l.length ≤ 1000000) :
    Calls Tryz.prog 131 #[.pointer (some ⟨z.g, 0, none⟩), .int .i64 p, .int .i64 m] w fun e w' => e = .returned (.tuple #[]) ∧ ∃ U' uc', IR w' z T tc U' uc' (execM x m s) ∧ StI z.B w w' := by
  have n8 := hok.n8
  have m256 : m < 2 ^ 8 := Nat.lt_of_lt_of_le hm (Nat.pow_le_pow_right (by decide) n8)
  have m256' : m < 256 := by omega
  have HL := Lib.hid (fun k => lanesOf_lt (k := k) hm)
  have h8 := lanesOf_len m
  obtain ⟨hpl, -⟩ := List.getElem?_eq_some_iff.1 hx
  have hpI : (p : Int) < (z.l.length : Int) := by omega
  obtain ⟨c0, -, -, -, -, -, -⟩ := h.cells
  obtain ⟨d0, -⟩ := h.mach.cells
  have hlst := h.mach.lst
  obtain ⟨lb, off, y, hA, hbB, hy, l0, l1, l2, l3⟩ := hlst.at_ hpl
  rw [hx] at hy
  injection hy with hy
  subst hy
  rw [hA] at d0
  have H := Lib.hid h
  have HV := Lib.hid hv
  have HM := Lib.hid hm
  have HRK := Lib.hid (fun k (hk : k < z.n) => (OR.base_le (h.inn k hk)).2)
  have HMB := Lib.hid (OR.base_le h.mem).2
  have hX0 := Ext.alloc w (.cells #[.int .i64 x.op, .int .i64 x.a, .int .i64 x.b, .int .i64 x.c] 76)
  have HX0 := Lib.hid hX0
  have HN := Lib.hid (heap_alloc_new w (.cells #[.int .i64 x.op, .int .i64 x.a, .int .i64 x.b, .int .i64 x.c] 76))
  clear h m256 hm hx hlst hA hX0
  go_enter Tryz.func131, Tryz.ntmps131
  go_wp2_with fail
  refine (lanesOf_c m _ (by omega)).mono ?_
  rintro e w1 ⟨L, lc, rfl, hO, hb1⟩
  have hX1 := HX0.out.trans (Ext.of_below hb1)
  have h1 := H.out.ext hX1 hB
  have hn1 := Lib.hid ((Ext.of_below hb1).heap_ HN.out)
  have hst1 := StI.of_ext hX1 hB
  have hO1 := OR.mono hO (base' := w.heap.size) (by simp)
  clear c0 d0 l0 l1 l2 l3 hb1 hX1 HN hO
  go_wp2
  go_loopw [22] (fun jv wr => ExRel w z x m s T tc L lc jv wr) (fun jv _ => (lanesOf m).length - (intOf jv).toNat)
  case atStart => exact ⟨0, U, uc, s, Nat.zero_le _, rfl, Lib.hid rfl, h1, hok, by omega, rfl, hO1, hn1, hst1⟩
  case round =>
    clear h1 hO1 hn1 hst1
    obtain ⟨j, Uj, ucj, sj, hj, rfl, HSJ, hIj, hokj, haj, hpj, hOj, hcj, hstj⟩ := hrel
    have hszj := hstj.size
    have HPJ := Lib.hid hpj
    clear hpj
    have d0 := cell_of_heap hcj.out 0
    have d1 := cell_of_heap hcj.out 1
    have d2 := cell_of_heap hcj.out 2
    have d3 := cell_of_heap hcj.out 3
    by_cases hlt : j < (lanesOf m).length
    · have hk : (lanesOf m)[j]? = some ((lanesOf m)[j]) := List.getElem?_eq_getElem hlt
      generalize (lanesOf m)[j] = k at hk
      have hkn : k < z.n := HL.out k (List.mem_of_getElem? hk)
      obtain ⟨b, off, rfl, hbB, hc⟩ := hOj.reads.2 (by omega)
      have g1 := hc j (.int .i64 k) (by rw [List.getElem?_map, lanesI_get hk]; rfl)
      obtain ⟨c0, c1, c2, c3, c4, c5, c6⟩ := hIj.cells
      have hrow := hIj.rowAt hkn
      have hFT := Lib.hid (show exec1 x sj k = foldTo (exec1 x) m s (j + 1) by rw [foldTo_succ _ _ hk, HSJ.out])
      have hjI : (j : Int) < ((lanesOf m).length : Int) := by omega
      have hkI : (k : Int) < (z.n : Int) := by omega
      have hk7 : k ≤ 7 := by omega
      have HI := Lib.hid hIj
      clear hk hc HSJ c6
      cases hmo : memOp x with
      | false =>
        have e89 : (x.op == 8) = false ∧ (x.op == 9) = false := by simpa [memOp] using hmo
        obtain ⟨e8, e9⟩ := e89
        have hE := Lib.hid (noAcc_exec (s := sj) (k := k) hmo)
        clear hmo c0 c3 c4 c5 hIj
        go_wp2_with fail
        go_still_tail 13, (by kernel_rfl)
        go_wp2_with fail
        have hXd : Ext wr wr.drew := Ext.drew wr
        have hBn : z.B ≤ wr.heap.size := by omega
        have hId := HI.out.ext hXd hBn
        refine (compute_c x k (sj.regs.getD k []) sj.mem z.B (z.rk k) 4 z.mb z.mc sj.mem.length _ HV.out h10 (by omega) (hId.inn k hkn) hId.mem (hId.mne k hkn) (hokj.get hkn).2 hokj.memw ⟨hokj.mem1, hokj.mem2⟩).mono ?_
        rintro e w6 ⟨rfl, hs⟩
        obtain ⟨hI6, hst6⟩ := hId.simp hkn hokj rfl hBn rfl hs
        have hst7 := (hstj.trans (StI.of_ext hXd hBn)).trans hst6
        have hc6 := Lib.hid (hst6.code (hXd.heap_ hcj.out))
        have hO6 := OR.off (OR.ext hOj hXd) hs.2.2 (fun e => by have := (OR.block hOj _ e).1; have := HRK.out k hkn; omega) (fun e => by have := (OR.block hOj _ e).1; have := HMB.out; omega)
        rw [hE.out] at hI6
        have hok6 := hokj.exec1 HV.out hkn
        have ha6 := exec1_acc x sj k
        have hp6 : (exec1 x sj k).phase = sj.phase := rfl
        rw [hFT.out] at hI6 hok6 ha6 hp6
        clear hId hs hst6 hXd
        go_wp2
        go_roundw
        case rel => exact ⟨j + 1, Uj, ucj, _, by omega, by go_num, Lib.hid rfl, hI6, hok6, by omega, by rw [hp6, HPJ.out], hO6, hc6, hst7⟩
        case measure => simp [intOf]; omega
      | true =>
        have hrg := hokj.get hkn
        have hb2 := cvOk_b2 HV.out (show x.op = 3 ∨ x.op = 4 ∨ x.op = 5 ∨ x.op = 6 ∨ x.op = 7 ∨ x.op = 8 ∨ x.op = 9 by
          simp [memOp] at hmo; omega)
        obtain ⟨xb, hxb⟩ := Int.eq_ofNat_of_zero_le hb2.1
        have hreg := (OI.at0 (hIj.inn k hkn)).1 xb _ (rg_get hrg.1 (show xb ≤ 3 by omega))
        have hrw := rg_word hrg.2 (xb : Int)
        have hm1 := hokj.mem1
        have hm2 := hokj.mem2
        have hxb4 : (xb : Int) < 4 := by omega
        obtain ⟨rv, hrv⟩ := Int.eq_ofNat_of_zero_le hrw.1
        have hmod : Int.tmod (rg (sj.regs.getD k []) xb) (sj.mem.length : Int) = ((rv % sj.mem.length : Nat) : Int) := by rw [hrv, Int.tmod_eq_emod_of_nonneg (by omega)]; omega
        have hkm : rv % sj.mem.length < sj.mem.length := Nat.mod_lt _ (by omega)
        have hwr : IntKind.i64.wrap (Int.tmod (rg (sj.regs.getD k []) xb) (sj.mem.length : Int)) = ((rv % sj.mem.length : Nat) : Int) := by rw [hmod]; exact IntWalk.i64_in _ (by omega)
        have HC := Lib.hid (show (sj.reg k x.b % sj.mem.length).toNat = rv % sj.mem.length by unfold LS.reg; rw [hxb, hrv]; omega)
        generalize hcell : rv % sj.mem.length = cell at *
        have hmnz : ¬ sj.mem.length = 0 := by omega
        have hE := Lib.hid (addAcc_exec (s := sj) (k := k) hmo rfl)
        rw [hxb] at d2
        have HXB := Lib.hid hxb
        clear hxb
        clear hcell hrv hkm hrw
        generalize rg (sj.regs.getD k []) (xb : Int) = rb at *
        obtain ⟨q9, hq9⟩ : ∃ q9, (x.op == 9) = q9 := ⟨_, rfl⟩
        have h89 : ((x.op == 8) = true ∧ q9 = false) ∨ ((x.op == 8) = false ∧ q9 = true) := by
          simp only [memOp, Bool.or_eq_true] at hmo
          rcases hmo with h | h
          · refine .inl ⟨h, ?_⟩
            rw [← hq9, beq_iff_eq.1 h]; rfl
          · refine .inr ⟨?_, by rw [← hq9]; exact h⟩
            rw [beq_iff_eq.1 h]; rfl
        have HA := Lib.hid (hIj.acc.alloc (.cells #[.int .i64 k, .int .i64 cell, .bool q9, .int .i64 sj.phase] 130))
        have hal : sj.accs.length ≤ 1000000000000 - 1 := by omega
        have HPL := Lib.hid (show sj.phase ≤ 1000000000 by have := HPJ.out; omega)
        have HMO := Lib.hid hmo
        have HQ := Lib.hid (show (⟨k, cell, q9, sj.phase⟩ : Acc) = ⟨k, (sj.reg k x.b % sj.mem.length).toNat, x.op == 9, sj.phase⟩ by rw [HC.out, hq9])
        clear hmo hIj c0 c3 hE HC
        obtain ⟨i0, hi0, hz0, hz1, hz2⟩ := info_parts infoAcc
        have HF := Lib.hid (show ∀ (U' : Option Addr) (uc' : Nat) (w3 : World), (wr.alloc (.cells #[.int .i64 k, .int .i64 cell, .bool q9, .int .i64 sj.phase] 130)).grownBy w3 (Value.ownBlock (.slice Uj sj.accs.length ucj)) → OR w3 z.B 130 4 U' (sj.accs.length + 1) uc' (accsV sj.accs ++ [.int .i64 k, .int .i64 cell, .bool q9, .int .i64 sj.phase]) →
            (IR (w3.setCell ⟨z.g, 4, none⟩ (.slice U' (sj.accs.length + 1) uc')) z T tc U' uc' (addAcc ⟨k, cell, q9, sj.phase⟩ sj) ∧ StI z.B wr (w3.setCell ⟨z.g, 4, none⟩ (.slice U' (sj.accs.length + 1) uc'))) ∧
              OI (w3.setCell ⟨z.g, 4, none⟩ (.slice U' (sj.accs.length + 1) uc')) w.heap.size (some ⟨b, off, none⟩) (lanesOf m).length lc (lanesI m) from fun U' uc' w3 hg ho => by
          have hX := Ext.alloc wr (.cells #[.int .i64 k, .int .i64 cell, .bool q9, .int .i64 sj.phase] 130)
          have b1 := hX.heap_ HI.out.blk
          have b2 := (hg.block z.g (lt_of_block b1) (fun e => own_ne HA.out b1 (by decide) e.symm)).trans b1
          exact ⟨HI.out.acc_ (q := ⟨k, cell, q9, sj.phase⟩) hX (by omega) hg ho, OR.app_set (OR.ext hOj hX) HA.out (by decide) hg b2 (by decide) 4 _⟩)
        have hgl := HI.out.glt
        have hX := Ext.alloc wr (.cells #[.int .i64 k, .int .i64 cell, .bool q9, .int .i64 sj.phase] 130)
        have hnew := heap_alloc_new wr (.cells #[.int .i64 k, .int .i64 cell, .bool q9, .int .i64 sj.phase] 130)
        have HOR := Lib.hid (OR.drew HA.out)
        have HCL := Lib.hid (show ∀ w3 : World, (wr.alloc (.cells #[.int .i64 k, .int .i64 cell, .bool q9, .int .i64 sj.phase] 130)).grownBy w3 (Value.ownBlock (.slice Uj sj.accs.length ucj)) →
            w3.cell? ⟨z.g, 1, none⟩ = some (.slice (some ⟨z.rg, 0, none⟩) z.n z.rc) ∧ w3.cell? ⟨z.g, 2, none⟩ = some (.slice (some ⟨z.mb, 0, none⟩) sj.mem.length z.mc) ∧ w3.cell? ⟨z.g, 5, none⟩ = some (.int .i64 sj.phase) ∧
            w3.cell? ⟨z.rg, k, none⟩ = some (.slice (some ⟨z.rk k, 0, none⟩) 4 4) ∧ w3.cell? ⟨z.rk k, xb, none⟩ = some (.int .i64 rb) ∧ w3.cell? ⟨w.heap.size, 0, none⟩ = some (.int .i64 x.op) ∧ w3.cell? ⟨w.heap.size, 2, none⟩ = some (.int .i64 xb) ∧
            w3.frozen? ⟨z.g, 4, none⟩ = false ∧ w3.cell? ⟨z.g, 4, none⟩ = some (.slice Uj sj.accs.length ucj) from fun w3 hg => by
          have b1 := hX.heap_ HI.out.blk
          obtain ⟨cu2, b2⟩ := OR.heap_ HI.out.out
          replace b2 := hX.heap_ b2
          obtain ⟨cu3, b3⟩ := OR.heap_ (HI.out.inn k hkn)
          replace b3 := hX.heap_ b3
          have b4 := hX.heap_ hcj.out
          refine ⟨?_, ?_, ?_, ?_, ?_, ?_, ?_, grown_free HA.out hg b1 (by decide) 4, ?_⟩
          · rw [grown_cell HA.out hg b1 (by decide)]; exact hX.cell c1
          · rw [grown_cell HA.out hg b1 (by decide)]; exact hX.cell c2
          · rw [grown_cell HA.out hg b1 (by decide)]; exact hX.cell c5
          · rw [grown_cell HA.out hg b2 (by decide)]; exact hX.cell hrow
          · rw [grown_cell HA.out hg b3 (by decide)]; exact hX.cell hreg
          · rw [grown_cell HA.out hg b4 (by decide)]; exact hX.cell d0
          · rw [grown_cell HA.out hg b4 (by decide)]; exact hX.cell d2
          · rw [grown_cell HA.out hg b1 (by decide)]; exact hX.cell c4)
        have n1 : z.g ≠ z.rg := by
          obtain ⟨cu2, b2⟩ := OR.heap_ HI.out.out
          exact type_ne HI.out.blk b2 (by decide)
        have n2 : z.g ≠ z.rk k := by
          obtain ⟨cu2, b2⟩ := OR.heap_ (HI.out.inn k hkn)
          exact type_ne HI.out.blk b2 (by decide)
        have n3 : z.g ≠ w.heap.size := type_ne HI.out.blk hcj.out (by decide)
        clear hX
        rcases h89 with ⟨e8, rfl⟩ | ⟨e8, rfl⟩
        · go_wp2_with fail
          refine wp_region_held_drew (S := (fun w' => w'.cell? ⟨z.g, 1, none⟩ = some (.slice (some ⟨z.rg, 0, none⟩) z.n z.rc) ∧ w'.cell? ⟨z.g, 2, none⟩ = some (.slice (some ⟨z.mb, 0, none⟩) sj.mem.length z.mc) ∧ w'.cell? ⟨z.g, 5, none⟩ = some (.int .i64 sj.phase) ∧ w'.cell? ⟨z.rg, k, none⟩ = some (.slice (some ⟨z.rk k, 0, none⟩) 4 4) ∧ w'.cell? ⟨z.rk k, xb, none⟩ = some (.int .i64 rb) ∧ w'.cell? ⟨w.heap.size, 0, none⟩ = some (.int .i64 x.op) ∧ w'.cell? ⟨w.heap.size, 2, none⟩ = some (.int .i64 xb))) (by kernel_rfl) ?_ (fun hHeld => ?_)
          · (try dsimp only); (first | (exact keep_acc n1 n2 n3 ⟨z1, z2, z3, z4, z5, z6, z7⟩) | go_keep | fail)
          refine wpAnyH_take (i := 0) (v := ?_) rfl (by decide +kernel) (by decide +kernel) (by decide +kernel) (fun _ _ _ h => h) (Or.inl ⟨by rfl, ?_⟩) (by assumption) ?_
          rotate_left
          · (intro w hSw; (try dsimp only at hSw); (try dsimp only [List.getElem_toArray, List.getElem_cons_succ, List.getElem_cons_zero]); go_simp)
            try with_reducible rfl
          try simp only [List.getElem_toArray, List.getElem_cons_succ, List.getElem_cons_zero, Act.put, List.setIfInBounds_toArray, List.set_cons_zero, List.set_cons_succ]
          refine wpAnyH_take (i := 1) (v := ?_) rfl (by decide +kernel) (by decide +kernel) (by decide +kernel) (fun _ _ _ h => h) (Or.inl ⟨by rfl, ?_⟩) (by assumption) ?_
          rotate_left
          · (intro w hSw; (try dsimp only at hSw); (try dsimp only [List.getElem_toArray, List.getElem_cons_succ, List.getElem_cons_zero]); go_simp)
            try with_reducible rfl
          try simp only [List.getElem_toArray, List.getElem_cons_succ, List.getElem_cons_zero, Act.put, List.setIfInBounds_toArray, List.set_cons_zero, List.set_cons_succ]
          refine wpAnyH_take (i := 2) (v := ?_) rfl (by decide +kernel) (by decide +kernel) (by decide +kernel) (fun _ _ _ h => h) (Or.inl ⟨by rfl, ?_⟩) (by assumption) ?_
          rotate_left
          · (intro w hSw; (try dsimp only at hSw); (try dsimp only [List.getElem_toArray, List.getElem_cons_succ, List.getElem_cons_zero]); go_simp)
            try with_reducible rfl
          try simp only [List.getElem_toArray, List.getElem_cons_succ, List.getElem_cons_zero, Act.put, List.setIfInBounds_toArray, List.set_cons_zero, List.set_cons_succ]
          refine wpAnyH_take (i := 3) (v := ?_) rfl (by decide +kernel) (by decide +kernel) (by decide +kernel) (fun _ _ _ h => h) (Or.inl ⟨by rfl, ?_⟩) (by assumption) ?_
          rotate_left
          · (intro w hSw; (try dsimp only at hSw); (try dsimp only [List.getElem_toArray, List.getElem_cons_succ, List.getElem_cons_zero]); go_simp)
            try with_reducible rfl
          try simp only [List.getElem_toArray, List.getElem_cons_succ, List.getElem_cons_zero, Act.put, List.setIfInBounds_toArray, List.set_cons_zero, List.set_cons_succ]
          refine wpAnyH_take (i := 5) (v := ?_) rfl (by decide +kernel) (by decide +kernel) (by decide +kernel) (fun _ _ _ h => h) (Or.inl ⟨by rfl, ?_⟩) (by assumption) ?_
          rotate_left
          · (intro w hSw; (try dsimp only at hSw); (try dsimp only [List.getElem_toArray, List.getElem_cons_succ, List.getElem_cons_zero]); go_simp)
            try with_reducible rfl
          try simp only [List.getElem_toArray, List.getElem_cons_succ, List.getElem_cons_zero, Act.put, List.setIfInBounds_toArray, List.set_cons_zero, List.set_cons_succ]
          refine wpAnyH_take (i := 6) (v := ?_) rfl (by decide +kernel) (by decide +kernel) (by decide +kernel) (fun _ _ _ h => h) (Or.inl ⟨by rfl, ?_⟩) (by assumption) ?_
          rotate_left
          · (intro w hSw; (try dsimp only at hSw); (try dsimp only [List.getElem_toArray, List.getElem_cons_succ, List.getElem_cons_zero]); go_simp)
            try with_reducible rfl
          try simp only [List.getElem_toArray, List.getElem_cons_succ, List.getElem_cons_zero, Act.put, List.setIfInBounds_toArray, List.set_cons_zero, List.set_cons_succ]
          refine wpAnyH_take (i := 7) (v := ?_) rfl (by decide +kernel) (by decide +kernel) (by decide +kernel) (fun _ _ _ h => h) (Or.inl ⟨by rfl, ?_⟩) (by assumption) ?_
          rotate_left
          · (intro w hSw; (try dsimp only at hSw); (try dsimp only [List.getElem_toArray, List.getElem_cons_succ, List.getElem_cons_zero]); go_simp)
            try with_reducible rfl
          try simp only [List.getElem_toArray, List.getElem_cons_succ, List.getElem_cons_zero, Act.put, List.setIfInBounds_toArray, List.set_cons_zero, List.set_cons_succ]
          refine wpAnyH_take (i := 8) (v := ?_) rfl (by decide +kernel) (by decide +kernel) (by decide +kernel) (fun _ _ _ h => h) (Or.inl ⟨by rfl, ?_⟩) (by assumption) ?_
          rotate_left
          · (intro w hSw; (try dsimp only at hSw); (try dsimp only [List.getElem_toArray, List.getElem_cons_succ, List.getElem_cons_zero]); go_simp)
            try with_reducible rfl
          try simp only [List.getElem_toArray, List.getElem_cons_succ, List.getElem_cons_zero, Act.put, List.setIfInBounds_toArray, List.set_cons_zero, List.set_cons_succ]
          refine wpAnyH_take (i := 9) (v := ?_) rfl (by decide +kernel) (by decide +kernel) (by decide +kernel) (fun _ _ _ h => h) (Or.inl ⟨by rfl, ?_⟩) (by assumption) ?_
          rotate_left
          · (intro w hSw; (try dsimp only at hSw); (try dsimp only [List.getElem_toArray, List.getElem_cons_succ, List.getElem_cons_zero]); go_simp)
            try with_reducible rfl
          try simp only [List.getElem_toArray, List.getElem_cons_succ, List.getElem_cons_zero, Act.put, List.setIfInBounds_toArray, List.set_cons_zero, List.set_cons_succ]
          refine wpAnyH_take (i := 10) (v := ?_) rfl (by decide +kernel) (by decide +kernel) (by decide +kernel) (fun _ _ _ h => h) (Or.inl ⟨by rfl, ?_⟩) (by assumption) ?_
          rotate_left
          · (intro w hSw; (try dsimp only at hSw); (try dsimp only [List.getElem_toArray, List.getElem_cons_succ, List.getElem_cons_zero]); go_simp)
            try with_reducible rfl
          try simp only [List.getElem_toArray, List.getElem_cons_succ, List.getElem_cons_zero, Act.put, List.setIfInBounds_toArray, List.set_cons_zero, List.set_cons_succ]
          refine wpAnyH_take (i := 11) (v := ?_) rfl (by decide +kernel) (by decide +kernel) (by decide +kernel) (fun _ _ _ h => h) (Or.inl ⟨by rfl, ?_⟩) (by assumption) ?_
          rotate_left
          · (intro w hSw; (try dsimp only at hSw); (try dsimp only [List.getElem_toArray, List.getElem_cons_succ, List.getElem_cons_zero]); go_simp)
            try with_reducible rfl
          try simp only [List.getElem_toArray, List.getElem_cons_succ, List.getElem_cons_zero, Act.put, List.setIfInBounds_toArray, List.set_cons_zero, List.set_cons_succ]
          refine wpAnyH_take (i := 12) (v := ?_) rfl (by decide +kernel) (by decide +kernel) (by decide +kernel) (fun _ _ _ h => h) (Or.inl ⟨by rfl, ?_⟩) (by assumption) ?_
          rotate_left
          · (intro w hSw; (try dsimp only at hSw); (try dsimp only [List.getElem_toArray, List.getElem_cons_succ, List.getElem_cons_zero]); go_simp)
            try with_reducible rfl
          try simp only [List.getElem_toArray, List.getElem_cons_succ, List.getElem_cons_zero, Act.put, List.setIfInBounds_toArray, List.set_cons_zero, List.set_cons_succ]
          refine wpAnyH_take (i := 13) (v := ?_) rfl (by decide +kernel) (by decide +kernel) (by decide +kernel) (fun _ _ _ h => h) (Or.inl ⟨by rfl, ?_⟩) (by assumption) ?_
          rotate_left
          · (intro w hSw; (try dsimp only at hSw); (try dsimp only [List.getElem_toArray, List.getElem_cons_succ, List.getElem_cons_zero]); go_simp)
            try with_reducible rfl
          try simp only [List.getElem_toArray, List.getElem_cons_succ, List.getElem_cons_zero, Act.put, List.setIfInBounds_toArray, List.set_cons_zero, List.set_cons_succ]
          refine wpAnyH_take (i := 14) (v := ?_) rfl (by decide +kernel) (by decide +kernel) (by decide +kernel) (fun _ _ _ h => h) (Or.inl ⟨by rfl, ?_⟩) (by assumption) ?_
          rotate_left
          · (intro w hSw; (try dsimp only at hSw); (try dsimp only [List.getElem_toArray, List.getElem_cons_succ, List.getElem_cons_zero]); go_simp)
            try with_reducible rfl
          try simp only [List.getElem_toArray, List.getElem_cons_succ, List.getElem_cons_zero, Act.put, List.setIfInBounds_toArray, List.set_cons_zero, List.set_cons_succ]
          refine wpAnyH_take (i := 15) (v := ?_) rfl (by decide +kernel) (by decide +kernel) (by decide +kernel) (fun _ _ _ h => h) (Or.inl ⟨by rfl, ?_⟩) (by assumption) ?_
          rotate_left
          · (intro w hSw; (try dsimp only at hSw); (try dsimp only [List.getElem_toArray, List.getElem_cons_succ, List.getElem_cons_zero]); go_simp)
            try with_reducible rfl
          try simp only [List.getElem_toArray, List.getElem_cons_succ, List.getElem_cons_zero, Act.put, List.setIfInBounds_toArray, List.set_cons_zero, List.set_cons_succ]
          refine wpAnyH_take (i := 16) (v := ?_) rfl (by decide +kernel) (by decide +kernel) (by decide +kernel) (fun _ _ _ h => h) (Or.inl ⟨by rfl, ?_⟩) (by assumption) ?_
          rotate_left
          · (intro w hSw; (try dsimp only at hSw); (try dsimp only [List.getElem_toArray, List.getElem_cons_succ, List.getElem_cons_zero]); go_simp)
            try with_reducible rfl
          try simp only [List.getElem_toArray, List.getElem_cons_succ, List.getElem_cons_zero, Act.put, List.setIfInBounds_toArray, List.set_cons_zero, List.set_cons_succ]
          refine wpAnyH_take (i := 17) (v := ?_) rfl (by decide +kernel) (by decide +kernel) (by decide +kernel) (fun _ _ _ h => h) (Or.inl ⟨by rfl, ?_⟩) (by assumption) ?_
          rotate_left
          · (intro w hSw; (try dsimp only at hSw); (try dsimp only [List.getElem_toArray, List.getElem_cons_succ, List.getElem_cons_zero]); go_simp)
            try with_reducible rfl
          try simp only [List.getElem_toArray, List.getElem_cons_succ, List.getElem_cons_zero, Act.put, List.setIfInBounds_toArray, List.set_cons_zero, List.set_cons_succ]
          refine wpAnyH_take (i := 18) (v := ?_) rfl (by decide +kernel) (by decide +kernel) (by decide +kernel) (fun _ _ _ h => h) (Or.inl ⟨by rfl, ?_⟩) (by assumption) ?_
          rotate_left
          · (intro w hSw; (try dsimp only at hSw); (try dsimp only [List.getElem_toArray, List.getElem_cons_succ, List.getElem_cons_zero]); go_simp)
            try with_reducible rfl
          try simp only [List.getElem_toArray, List.getElem_cons_succ, List.getElem_cons_zero, Act.put, List.setIfInBounds_toArray, List.set_cons_zero, List.set_cons_succ]
          refine wpAnyH_take (i := 19) (v := ?_) rfl (by decide +kernel) (by decide +kernel) (by decide +kernel) (fun _ _ _ h => h) (Or.inl ⟨by rfl, ?_⟩) (by assumption) ?_
          rotate_left
          · (intro w hSw; (try dsimp only at hSw); (try dsimp only [List.getElem_toArray, List.getElem_cons_succ, List.getElem_cons_zero]); go_simp)
            try with_reducible rfl
          try simp only [List.getElem_toArray, List.getElem_cons_succ, List.getElem_cons_zero, Act.put, List.setIfInBounds_toArray, List.set_cons_zero, List.set_cons_succ]
          refine wpAnyH_take (i := 20) (v := ?_) rfl (by decide +kernel) (by decide +kernel) (by decide +kernel) (fun _ _ _ h => h) (Or.inl ⟨by rfl, ?_⟩) (by assumption) ?_
          rotate_left
          · (intro w hSw; (try dsimp only at hSw); (try dsimp only [List.getElem_toArray, List.getElem_cons_succ, List.getElem_cons_zero]); go_simp)
            try with_reducible rfl
          try simp only [List.getElem_toArray, List.getElem_cons_succ, List.getElem_cons_zero, Act.put, List.setIfInBounds_toArray, List.set_cons_zero, List.set_cons_succ]
          refine wpAnyH_take (i := 21) (v := ?_) rfl (by decide +kernel) (by decide +kernel) (by decide +kernel) (fun _ _ _ h => h) (Or.inl ⟨by rfl, ?_⟩) (by assumption) ?_
          rotate_left
          · (intro w hSw; (try dsimp only at hSw); (try dsimp only [List.getElem_toArray, List.getElem_cons_succ, List.getElem_cons_zero]); go_simp)
            try with_reducible rfl
          try simp only [List.getElem_toArray, List.getElem_cons_succ, List.getElem_cons_zero, Act.put, List.setIfInBounds_toArray, List.set_cons_zero, List.set_cons_succ]
          refine wpAnyH_take (i := 22) (v := ?_) rfl (by decide +kernel) (by decide +kernel) (by decide +kernel) (fun _ _ _ h => h) (Or.inl ⟨by rfl, ?_⟩) (by assumption) ?_
          rotate_left
          · (intro w hSw; (try dsimp only at hSw); (try dsimp only [List.getElem_toArray, List.getElem_cons_succ, List.getElem_cons_zero]); go_simp)
            try with_reducible rfl
          try simp only [List.getElem_toArray, List.getElem_cons_succ, List.getElem_cons_zero, Act.put, List.setIfInBounds_toArray, List.set_cons_zero, List.set_cons_succ]
          refine wpAnyH_take (i := 23) (v := ?_) rfl (by decide +kernel) (by decide +kernel) (by decide +kernel) (fun _ _ _ h => h) (Or.inl ⟨by rfl, ?_⟩) (by assumption) ?_
          rotate_left
          · (intro w hSw; (try dsimp only at hSw); (try dsimp only [List.getElem_toArray, List.getElem_cons_succ, List.getElem_cons_zero]); go_simp)
            try with_reducible rfl
          try simp only [List.getElem_toArray, List.getElem_cons_succ, List.getElem_cons_zero, Act.put, List.setIfInBounds_toArray, List.set_cons_zero, List.set_cons_succ]
          refine wpAnyH_take (i := 24) (v := ?_) rfl (by decide +kernel) (by decide +kernel) (by decide +kernel) (fun _ _ _ h => h) (Or.inl ⟨by rfl, ?_⟩) (by assumption) ?_
          rotate_left
          · (intro w hSw; (try dsimp only at hSw); (try dsimp only [List.getElem_toArray, List.getElem_cons_succ, List.getElem_cons_zero]); go_simp)
            try with_reducible rfl
          try simp only [List.getElem_toArray, List.getElem_cons_succ, List.getElem_cons_zero, Act.put, List.setIfInBounds_toArray, List.set_cons_zero, List.set_cons_succ]
          refine wpAnyH_take (i := 25) (v := ?_) rfl (by decide +kernel) (by decide +kernel) (by decide +kernel) (fun _ _ _ h => h) (Or.inl ⟨by rfl, ?_⟩) (by assumption) ?_
          rotate_left
          · (intro w hSw; (try dsimp only at hSw); (try dsimp only [List.getElem_toArray, List.getElem_cons_succ, List.getElem_cons_zero]); go_simp)
            try with_reducible rfl
          try simp only [List.getElem_toArray, List.getElem_cons_succ, List.getElem_cons_zero, Act.put, List.setIfInBounds_toArray, List.set_cons_zero, List.set_cons_succ]
          refine wpAnyH_take (i := 26) (v := ?_) rfl (by decide +kernel) (by decide +kernel) (by decide +kernel) (fun _ _ _ h => h) (Or.inl ⟨by rfl, ?_⟩) (by assumption) ?_
          rotate_left
          · (intro w hSw; (try dsimp only at hSw); (try dsimp only [List.getElem_toArray, List.getElem_cons_succ, List.getElem_cons_zero]); go_simp)
            try with_reducible rfl
          try simp only [List.getElem_toArray, List.getElem_cons_succ, List.getElem_cons_zero, Act.put, List.setIfInBounds_toArray, List.set_cons_zero, List.set_cons_succ]
          refine wpAnyH_take (i := 27) (v := ?_) rfl (by decide +kernel) (by decide +kernel) (by decide +kernel) (fun _ _ _ h => h) (Or.inl ⟨by rfl, ?_⟩) (by assumption) ?_
          rotate_left
          · (intro w hSw; (try dsimp only at hSw); (try dsimp only [List.getElem_toArray, List.getElem_cons_succ, List.getElem_cons_zero]); go_simp)
            try with_reducible rfl
          try simp only [List.getElem_toArray, List.getElem_cons_succ, List.getElem_cons_zero, Act.put, List.setIfInBounds_toArray, List.set_cons_zero, List.set_cons_succ]
          refine wpAnyH_take (i := 28) (v := ?_) rfl (by decide +kernel) (by decide +kernel) (by decide +kernel) (fun _ _ _ h => h) (Or.inl ⟨by rfl, ?_⟩) (by assumption) ?_
          rotate_left
          · (intro w hSw; (try dsimp only at hSw); (try dsimp only [List.getElem_toArray, List.getElem_cons_succ, List.getElem_cons_zero]); go_simp)
            try with_reducible rfl
          try simp only [List.getElem_toArray, List.getElem_cons_succ, List.getElem_cons_zero, Act.put, List.setIfInBounds_toArray, List.set_cons_zero, List.set_cons_succ]
          refine wpAnyH_take (i := 29) (v := ?_) rfl (by decide +kernel) (by decide +kernel) (by decide +kernel) (fun _ _ _ h => h) (Or.inl ⟨by rfl, ?_⟩) (by assumption) ?_
          rotate_left
          · (intro w hSw; (try dsimp only at hSw); (try dsimp only [List.getElem_toArray, List.getElem_cons_succ, List.getElem_cons_zero]); go_simp)
            try with_reducible rfl
          try simp only [List.getElem_toArray, List.getElem_cons_succ, List.getElem_cons_zero, Act.put, List.setIfInBounds_toArray, List.set_cons_zero, List.set_cons_succ]
          refine wpAnyH_take (i := 30) (v := ?_) rfl (by decide +kernel) (by decide +kernel) (by decide +kernel) (fun _ _ _ h => h) (Or.inl ⟨by rfl, ?_⟩) (by assumption) ?_
          rotate_left
          · (intro w hSw; (try dsimp only at hSw); (try dsimp only [List.getElem_toArray, List.getElem_cons_succ, List.getElem_cons_zero]); go_simp)
            try with_reducible rfl
          try simp only [List.getElem_toArray, List.getElem_cons_succ, List.getElem_cons_zero, Act.put, List.setIfInBounds_toArray, List.set_cons_zero, List.set_cons_succ]
          refine wpAnyH_ready (rs := [4, 31]) (by kernel_rfl) (by simp) ?_
          refine AllReadyH.cons rfl (fun K hK => ?_) (AllReadyH.cons rfl (fun K hK => ?_) AllReadyH.nil)
          rotate_left
          try dsimp only [List.getElem_toArray, List.getElem_cons_succ, List.getElem_cons_zero]
          go_simp
          clear hHeld
          refine hK.out _ _ ?_ (fun hHeld => ?_)
          · (try dsimp only); (first | done | (first | (exact keep_acc n1 n2 n3 ⟨z1, z2, z3, z4, z5, z6, z7⟩) | go_keep | fail))
          clear hK K
          try simp only [List.getElem_toArray, List.getElem_cons_succ, List.getElem_cons_zero, Act.put, List.setIfInBounds_toArray, List.set_cons_zero, List.set_cons_succ]
          refine wpAnyH_ready (rs := [4]) (by kernel_rfl) (by simp) ?_
          refine AllReadyH.cons rfl (fun K hK => ?_) AllReadyH.nil
          try dsimp only [List.getElem_toArray, List.getElem_cons_succ, List.getElem_cons_zero]
          go_simp
          clear hHeld
          refine hK.out _ _ ?_ (fun hHeld => ?_)
          · (try dsimp only); (first | done | (first | (exact keep_acc n1 n2 n3 ⟨z1, z2, z3, z4, z5, z6, z7⟩) | go_keep | fail))
          clear hK K
          try simp only [List.getElem_toArray, List.getElem_cons_succ, List.getElem_cons_zero, Act.put, List.setIfInBounds_toArray, List.set_cons_zero, List.set_cons_succ]
          refine wpAnyH_ready (rs := [32]) (by kernel_rfl) (by simp) ?_
          refine AllReadyH.cons rfl (fun K hK => ?_) AllReadyH.nil
          ((refine step_append_lies _ (by rfl) _ _ _ (by rfl) z.B 130 i0 _ 4 32 Tryz.underlying95 hi0 hz0 hz1 hz2 rfl (by omega) (.slice Uj sj.accs.length ucj) sj.accs.length _ (by rfl) HOR.out ⟨wr.heap.size, 0, none⟩ 1 1 [.int .i64 k, .int .i64 cell, .bool false, .int .i64 sj.phase] (by rfl) (by rfl) (World.news_of_block (cs := #[.int .i64 k, .int .i64 cell, .bool false, .int .i64 sj.phase]) (t := 130) (fr := (0, 0)) hnew) (by simp [Value.oneCell']) (by omega) (by unfold maxLen; omega) (by omega) (by simp; omega) (wr.heap.size + 1) (by simp) ?_; intro gg cap w3 ho3 hgrow hat hlt3; obtain ⟨z1, z2, z3, z4, z5, z6, z7, z8, z9⟩ := HCL.out w3 (grown_drew2' hgrow)))
          clear hHeld
          refine hK.out _ _ ?_ (fun hHeld => ?_)
          · (try dsimp only); (first | done | (first | (exact keep_acc n1 n2 n3 ⟨z1, z2, z3, z4, z5, z6, z7⟩) | go_keep | fail))
          clear hK K
          try simp only [List.getElem_toArray, List.getElem_cons_succ, List.getElem_cons_zero, Act.put, List.setIfInBounds_toArray, List.set_cons_zero, List.set_cons_succ]
          refine wpAnyH_take (i := 33) (v := ?_) rfl (by decide +kernel) (by decide +kernel) (by decide +kernel) (fun _ _ _ h => h) (Or.inl ⟨by rfl, ?_⟩) (by assumption) ?_
          rotate_left
          · (intro w hSw; (try dsimp only at hSw); (try dsimp only [List.getElem_toArray, List.getElem_cons_succ, List.getElem_cons_zero]); go_simp)
            try with_reducible rfl
          try simp only [List.getElem_toArray, List.getElem_cons_succ, List.getElem_cons_zero, Act.put, List.setIfInBounds_toArray, List.set_cons_zero, List.set_cons_succ]
          refine wpAnyH_take (i := 34) (v := ?_) rfl (by decide +kernel) (by decide +kernel) (by decide +kernel) (fun _ _ _ h => h) (Or.inl ⟨by rfl, ?_⟩) (by assumption) ?_
          rotate_left
          · (intro w hSw; (try dsimp only at hSw); (try dsimp only [List.getElem_toArray, List.getElem_cons_succ, List.getElem_cons_zero]); go_simp)
            try with_reducible rfl
          try simp only [List.getElem_toArray, List.getElem_cons_succ, List.getElem_cons_zero, Act.put, List.setIfInBounds_toArray, List.set_cons_zero, List.set_cons_succ]
          refine wpAnyH_ready (rs := [35]) (by kernel_rfl) (by simp) ?_
          refine AllReadyH.cons rfl (fun K hK => ?_) AllReadyH.nil
          try dsimp only [List.getElem_toArray, List.getElem_cons_succ, List.getElem_cons_zero]
          go_simp
          clear hHeld
          refine hK.out _ _ ?_ (fun hHeld => ?_)
          · (try dsimp only); (first | done | (first | (exact keep_acc n1 n2 n3 ⟨z1, z2, z3, z4, z5, z6, z7⟩) | go_keep | fail))
          clear hK K
          try simp only [List.getElem_toArray, List.getElem_cons_succ, List.getElem_cons_zero, Act.put, List.setIfInBounds_toArray, List.set_cons_zero, List.set_cons_succ]
          refine wpAnyH_done (by kernel_rfl) ?_ _
          rotate_left
          try dsimp only [List.getElem_toArray, List.getElem_cons_succ, List.getElem_cons_zero]
          go_simp
          clear hHeld
          refine hK.out _ _ ?_ (fun hHeld => ?_)
          · (try dsimp only); (first | done | (first | (exact keep_acc n1 n2 n3 ⟨z1, z2, z3, z4, z5, z6, z7⟩) | go_keep | fail))
          clear hK K
          try simp only [List.getElem_toArray, List.getElem_cons_succ, List.getElem_cons_zero, Act.put, List.setIfInBounds_toArray, List.set_cons_zero, List.set_cons_succ]
          refine wpAnyH_ready (rs := [31]) (by kernel_rfl) (by simp) ?_
          refine AllReadyH.cons rfl (fun K hK => ?_) AllReadyH.nil
          try dsimp only [List.getElem_toArray, List.getElem_cons_succ, List.getElem_cons_zero]
          go_simp
          clear hHeld
          refine hK.out _ _ ?_ (fun hHeld => ?_)
          · (try dsimp only); (first | done | (first | (exact keep_acc n1 n2 n3 ⟨z1, z2, z3, z4, z5, z6, z7⟩) | go_keep | fail))
          clear hK K
          try simp only [List.getElem_toArray, List.getElem_cons_succ, List.getElem_cons_zero, Act.put, List.setIfInBounds_toArray, List.set_cons_zero, List.set_cons_succ]
          refine wpAnyH_ready (rs := [32]) (by kernel_rfl) (by simp) ?_
          refine AllReadyH.cons rfl (fun K hK => ?_) AllReadyH.nil
          ((refine step_append_lies _ (by rfl) _ _ _ (by rfl) z.B 130 i0 _ 4 32 Tryz.underlying95 hi0 hz0 hz1 hz2 rfl (by omega) (.slice Uj sj.accs.length ucj) sj.accs.length _ (by rfl) HOR.out ⟨wr.heap.size, 0, none⟩ 1 1 [.int .i64 k, .int .i64 cell, .bool false, .int .i64 sj.phase] (by rfl) (by rfl) (World.news_of_block (cs := #[.int .i64 k, .int .i64 cell, .bool false, .int .i64 sj.phase]) (t := 130) (fr := (0, 0)) hnew) (by simp [Value.oneCell']) (by omega) (by unfold maxLen; omega) (by omega) (by simp; omega) (wr.heap.size + 1) (by simp) ?_; intro gg cap w3 ho3 hgrow hat hlt3; obtain ⟨z1, z2, z3, z4, z5, z6, z7, z8, z9⟩ := HCL.out w3 (grown_drew2' hgrow)))
          clear hHeld
          refine hK.out _ _ ?_ (fun hHeld => ?_)
          · (try dsimp only); (first | done | (first | (exact keep_acc n1 n2 n3 ⟨z1, z2, z3, z4, z5, z6, z7⟩) | go_keep | fail))
          clear hK K
          try simp only [List.getElem_toArray, List.getElem_cons_succ, List.getElem_cons_zero, Act.put, List.setIfInBounds_toArray, List.set_cons_zero, List.set_cons_succ]
          refine wpAnyH_take (i := 33) (v := ?_) rfl (by decide +kernel) (by decide +kernel) (by decide +kernel) (fun _ _ _ h => h) (Or.inl ⟨by rfl, ?_⟩) (by assumption) ?_
          rotate_left
          · (intro w hSw; (try dsimp only at hSw); (try dsimp only [List.getElem_toArray, List.getElem_cons_succ, List.getElem_cons_zero]); go_simp)
            try with_reducible rfl
          try simp only [List.getElem_toArray, List.getElem_cons_succ, List.getElem_cons_zero, Act.put, List.setIfInBounds_toArray, List.set_cons_zero, List.set_cons_succ]
          refine wpAnyH_take (i := 34) (v := ?_) rfl (by decide +kernel) (by decide +kernel) (by decide +kernel) (fun _ _ _ h => h) (Or.inl ⟨by rfl, ?_⟩) (by assumption) ?_
          rotate_left
          · (intro w hSw; (try dsimp only at hSw); (try dsimp only [List.getElem_toArray, List.getElem_cons_succ, List.getElem_cons_zero]); go_simp)
            try with_reducible rfl
          try simp only [List.getElem_toArray, List.getElem_cons_succ, List.getElem_cons_zero, Act.put, List.setIfInBounds_toArray, List.set_cons_zero, List.set_cons_succ]
          refine wpAnyH_ready (rs := [35]) (by kernel_rfl) (by simp) ?_
          refine AllReadyH.cons rfl (fun K hK => ?_) AllReadyH.nil
          try dsimp only [List.getElem_toArray, List.getElem_cons_succ, List.getElem_cons_zero]
          go_simp
          clear hHeld
          refine hK.out _ _ ?_ (fun hHeld => ?_)
          · (try dsimp only); (first | done | (first | (exact keep_acc n1 n2 n3 ⟨z1, z2, z3, z4, z5, z6, z7⟩) | go_keep | fail))
          clear hK K
          try simp only [List.getElem_toArray, List.getElem_cons_succ, List.getElem_cons_zero, Act.put, List.setIfInBounds_toArray, List.set_cons_zero, List.set_cons_succ]
          refine wpAnyH_done (by kernel_rfl) ?_ _
          all_goals
            clear hHeld
            obtain ⟨⟨hI4, hst4⟩, hO4⟩ := HF.out _ _ _ (grown_drew2' hgrow) ho3
            clear z1 z2 z3 z4 z5 z6 z7 z8 z9 ho3 hgrow hat hlt3 c1 c2 c4 c5 hrow hreg d0 d1 d2 d3 g1 hnew hmod hwr hmnz hal n1 n2 n3 hxb4 hi0 hz0 hz1 hz2
            generalize w3.setCell ⟨z.g, 4, none⟩ (.slice (some ⟨gg, 0, none⟩) (sj.accs.length + 1) cap) = w4 at *
            clear w3
            have hst5 := hstj.trans hst4
            have hc4 := hst4.code hcj.out
            have hs4 := hst4.size
            obtain ⟨c0, c1, c2, c3, c4, c5, -⟩ := hI4.cells
            have hrow := hI4.rowAt hkn
            have d0 := cell_of_heap hc4 0
            have d1 := cell_of_heap hc4 1
            have d2 := cell_of_heap hc4 2
            have d3 := cell_of_heap hc4 3
            have HI4 := Lib.hid hI4
            clear hI4 c0 c3 c4 c5 hOj
            go_wp2_with fail
            go_still_tail 13, (by kernel_rfl)
            go_wp2_with fail
            have hXd : Ext w4 w4.drew := Ext.drew w4
            have hBn : z.B ≤ w4.heap.size := by omega
            have hId := HI4.out.ext hXd hBn
            refine (compute_c x k (sj.regs.getD k []) sj.mem z.B (z.rk k) 4 z.mb z.mc sj.mem.length _ HV.out h10 hk7 (hId.innA hkn) hId.memA (hId.mne k hkn) (hokj.get hkn).2 hokj.memw ⟨hokj.mem1, hokj.mem2⟩).mono ?_
            rintro e w6 ⟨rfl, hs⟩
            obtain ⟨hI6, hst6⟩ := hId.simpA hkn hokj hBn HMO.out HQ.out hs
            have hst7 := (hst5.trans (StI.of_ext hXd hBn)).trans hst6
            have hc6 := Lib.hid (hst6.code (hXd.heap_ hc4))
            have hO6 := OR.off (OR.ext hO4 hXd) hs.2.2 (fun e => by have := (OR.block hO4 _ e).1; have := HRK.out k hkn; omega) (fun e => by have := (OR.block hO4 _ e).1; have := HMB.out; omega)
            have hok6 := hokj.exec1 HV.out hkn
            have ha6 := exec1_acc x sj k
            have hp6 : (exec1 x sj k).phase = sj.phase := rfl
            rw [hFT.out] at hI6 hok6 ha6 hp6
            clear hId hs hst6 hXd
            go_wp2
            refine ⟨⟨j + 1, _, _, _, by omega, by go_num, Lib.hid rfl, hI6, hok6, by omega, by rw [hp6, HPJ.out], hO6, hc6, hst7⟩, ?_⟩
            simp [intOf]; omega
        · go_wp2_with fail
          refine wp_region_held_drew (S := (fun w' => w'.cell? ⟨z.g, 1, none⟩ = some (.slice (some ⟨z.rg, 0, none⟩) z.n z.rc) ∧ w'.cell? ⟨z.g, 2, none⟩ = some (.slice (some ⟨z.mb, 0, none⟩) sj.mem.length z.mc) ∧ w'.cell? ⟨z.g, 5, none⟩ = some (.int .i64 sj.phase) ∧ w'.cell? ⟨z.rg, k, none⟩ = some (.slice (some ⟨z.rk k, 0, none⟩) 4 4) ∧ w'.cell? ⟨z.rk k, xb, none⟩ = some (.int .i64 rb) ∧ w'.cell? ⟨w.heap.size, 0, none⟩ = some (.int .i64 x.op) ∧ w'.cell? ⟨w.heap.size, 2, none⟩ = some (.int .i64 xb))) (by kernel_rfl) ?_ (fun hHeld => ?_)
          · (try dsimp only); (first | (exact keep_acc n1 n2 n3 ⟨z1, z2, z3, z4, z5, z6, z7⟩) | go_keep | fail)
          refine wpAnyH_take (i := 0) (v := ?_) rfl (by decide +kernel) (by decide +kernel) (by decide +kernel) (fun _ _ _ h => h) (Or.inl ⟨by rfl, ?_⟩) (by assumption) ?_
          rotate_left
          · (intro w hSw; (try dsimp only at hSw); (try dsimp only [List.getElem_toArray, List.getElem_cons_succ, List.getElem_cons_zero]); go_simp)
            try with_reducible rfl
          try simp only [List.getElem_toArray, List.getElem_cons_succ, List.getElem_cons_zero, Act.put, List.setIfInBounds_toArray, List.set_cons_zero, List.set_cons_succ]
          refine wpAnyH_take (i := 1) (v := ?_) rfl (by decide +kernel) (by decide +kernel) (by decide +kernel) (fun _ _ _ h => h) (Or.inl ⟨by rfl, ?_⟩) (by assumption) ?_
          rotate_left
          · (intro w hSw; (try dsimp only at hSw); (try dsimp only [List.getElem_toArray, List.getElem_cons_succ, List.getElem_cons_zero]); go_simp)
            try with_reducible rfl
          try simp only [List.getElem_toArray, List.getElem_cons_succ, List.getElem_cons_zero, Act.put, List.setIfInBounds_toArray, List.set_cons_zero, List.set_cons_succ]
          refine wpAnyH_take (i := 2) (v := ?_) rfl (by decide +kernel) (by decide +kernel) (by decide +kernel) (fun _ _ _ h => h) (Or.inl ⟨by rfl, ?_⟩) (by assumption) ?_
          rotate_left
          · (intro w hSw; (try dsimp only at hSw); (try dsimp only [List.getElem_toArray, List.getElem_cons_succ, List.getElem_cons_zero]); go_simp)
            try with_reducible rfl
          try simp only [List.getElem_toArray, List.getElem_cons_succ, List.getElem_cons_zero, Act.put, List.setIfInBounds_toArray, List.set_cons_zero, List.set_cons_succ]
          refine wpAnyH_take (i := 3) (v := ?_) rfl (by decide +kernel) (by decide +kernel) (by decide +kernel) (fun _ _ _ h => h) (Or.inl ⟨by rfl, ?_⟩) (by assumption) ?_
          rotate_left
          · (intro w hSw; (try dsimp only at hSw); (try dsimp only [List.getElem_toArray, List.getElem_cons_succ, List.getElem_cons_zero]); go_simp)
            try with_reducible rfl
          try simp only [List.getElem_toArray, List.getElem_cons_succ, List.getElem_cons_zero, Act.put, List.setIfInBounds_toArray, List.set_cons_zero, List.set_cons_succ]
          refine wpAnyH_take (i := 5) (v := ?_) rfl (by decide +kernel) (by decide +kernel) (by decide +kernel) (fun _ _ _ h => h) (Or.inl ⟨by rfl, ?_⟩) (by assumption) ?_
          rotate_left
          · (intro w hSw; (try dsimp only at hSw); (try dsimp only [List.getElem_toArray, List.getElem_cons_succ, List.getElem_cons_zero]); go_simp)
            try with_reducible rfl
          try simp only [List.getElem_toArray, List.getElem_cons_succ, List.getElem_cons_zero, Act.put, List.setIfInBounds_toArray, List.set_cons_zero, List.set_cons_succ]
          refine wpAnyH_take (i := 6) (v := ?_) rfl (by decide +kernel) (by decide +kernel) (by decide +kernel) (fun _ _ _ h => h) (Or.inl ⟨by rfl, ?_⟩) (by assumption) ?_
          rotate_left
          · (intro w hSw; (try dsimp only at hSw); (try dsimp only [List.getElem_toArray, List.getElem_cons_succ, List.getElem_cons_zero]); go_simp)
            try with_reducible rfl
          try simp only [List.getElem_toArray, List.getElem_cons_succ, List.getElem_cons_zero, Act.put, List.setIfInBounds_toArray, List.set_cons_zero, List.set_cons_succ]
          refine wpAnyH_take (i := 7) (v := ?_) rfl (by decide +kernel) (by decide +kernel) (by decide +kernel) (fun _ _ _ h => h) (Or.inl ⟨by rfl, ?_⟩) (by assumption) ?_
          rotate_left
          · (intro w hSw; (try dsimp only at hSw); (try dsimp only [List.getElem_toArray, List.getElem_cons_succ, List.getElem_cons_zero]); go_simp)
            try with_reducible rfl
          try simp only [List.getElem_toArray, List.getElem_cons_succ, List.getElem_cons_zero, Act.put, List.setIfInBounds_toArray, List.set_cons_zero, List.set_cons_succ]
          refine wpAnyH_take (i := 8) (v := ?_) rfl (by decide +kernel) (by decide +kernel) (by decide +kernel) (fun _ _ _ h => h) (Or.inl ⟨by rfl, ?_⟩) (by assumption) ?_
          rotate_left
          · (intro w hSw; (try dsimp only at hSw); (try dsimp only [List.getElem_toArray, List.getElem_cons_succ, List.getElem_cons_zero]); go_simp)
            try with_reducible rfl
          try simp only [List.getElem_toArray, List.getElem_cons_succ, List.getElem_cons_zero, Act.put, List.setIfInBounds_toArray, List.set_cons_zero, List.set_cons_succ]
          refine wpAnyH_take (i := 9) (v := ?_) rfl (by decide +kernel) (by decide +kernel) (by decide +kernel) (fun _ _ _ h => h) (Or.inl ⟨by rfl, ?_⟩) (by assumption) ?_
          rotate_left
          · (intro w hSw; (try dsimp only at hSw); (try dsimp only [List.getElem_toArray, List.getElem_cons_succ, List.getElem_cons_zero]); go_simp)
            try with_reducible rfl
          try simp only [List.getElem_toArray, List.getElem_cons_succ, List.getElem_cons_zero, Act.put, List.setIfInBounds_toArray, List.set_cons_zero, List.set_cons_succ]
          refine wpAnyH_take (i := 10) (v := ?_) rfl (by decide +kernel) (by decide +kernel) (by decide +kernel) (fun _ _ _ h => h) (Or.inl ⟨by rfl, ?_⟩) (by assumption) ?_
          rotate_left
          · (intro w hSw; (try dsimp only at hSw); (try dsimp only [List.getElem_toArray, List.getElem_cons_succ, List.getElem_cons_zero]); go_simp)
            try with_reducible rfl
          try simp only [List.getElem_toArray, List.getElem_cons_succ, List.getElem_cons_zero, Act.put, List.setIfInBounds_toArray, List.set_cons_zero, List.set_cons_succ]
          refine wpAnyH_take (i := 11) (v := ?_) rfl (by decide +kernel) (by decide +kernel) (by decide +kernel) (fun _ _ _ h => h) (Or.inl ⟨by rfl, ?_⟩) (by assumption) ?_
          rotate_left
          · (intro w hSw; (try dsimp only at hSw); (try dsimp only [List.getElem_toArray, List.getElem_cons_succ, List.getElem_cons_zero]); go_simp)
            try with_reducible rfl
          try simp only [List.getElem_toArray, List.getElem_cons_succ, List.getElem_cons_zero, Act.put, List.setIfInBounds_toArray, List.set_cons_zero, List.set_cons_succ]
          refine wpAnyH_take (i := 12) (v := ?_) rfl (by decide +kernel) (by decide +kernel) (by decide +kernel) (fun _ _ _ h => h) (Or.inl ⟨by rfl, ?_⟩) (by assumption) ?_
          rotate_left
          · (intro w hSw; (try dsimp only at hSw); (try dsimp only [List.getElem_toArray, List.getElem_cons_succ, List.getElem_cons_zero]); go_simp)
            try with_reducible rfl
          try simp only [List.getElem_toArray, List.getElem_cons_succ, List.getElem_cons_zero, Act.put, List.setIfInBounds_toArray, List.set_cons_zero, List.set_cons_succ]
          refine wpAnyH_take (i := 13) (v := ?_) rfl (by decide +kernel) (by decide +kernel) (by decide +kernel) (fun _ _ _ h => h) (Or.inl ⟨by rfl, ?_⟩) (by assumption) ?_
          rotate_left
          · (intro w hSw; (try dsimp only at hSw); (try dsimp only [List.getElem_toArray, List.getElem_cons_succ, List.getElem_cons_zero]); go_simp)
            try with_reducible rfl
          try simp only [List.getElem_toArray, List.getElem_cons_succ, List.getElem_cons_zero, Act.put, List.setIfInBounds_toArray, List.set_cons_zero, List.set_cons_succ]
          refine wpAnyH_take (i := 14) (v := ?_) rfl (by decide +kernel) (by decide +kernel) (by decide +kernel) (fun _ _ _ h => h) (Or.inl ⟨by rfl, ?_⟩) (by assumption) ?_
          rotate_left
          · (intro w hSw; (try dsimp only at hSw); (try dsimp only [List.getElem_toArray, List.getElem_cons_succ, List.getElem_cons_zero]); go_simp)
            try with_reducible rfl
          try simp only [List.getElem_toArray, List.getElem_cons_succ, List.getElem_cons_zero, Act.put, List.setIfInBounds_toArray, List.set_cons_zero, List.set_cons_succ]
          refine wpAnyH_take (i := 15) (v := ?_) rfl (by decide +kernel) (by decide +kernel) (by decide +kernel) (fun _ _ _ h => h) (Or.inl ⟨by rfl, ?_⟩) (by assumption) ?_
          rotate_left
          · (intro w hSw; (try dsimp only at hSw); (try dsimp only [List.getElem_toArray, List.getElem_cons_succ, List.getElem_cons_zero]); go_simp)
            try with_reducible rfl
          try simp only [List.getElem_toArray, List.getElem_cons_succ, List.getElem_cons_zero, Act.put, List.setIfInBounds_toArray, List.set_cons_zero, List.set_cons_succ]
          refine wpAnyH_take (i := 16) (v := ?_) rfl (by decide +kernel) (by decide +kernel) (by decide +kernel) (fun _ _ _ h => h) (Or.inl ⟨by rfl, ?_⟩) (by assumption) ?_
          rotate_left
          · (intro w hSw; (try dsimp only at hSw); (try dsimp only [List.getElem_toArray, List.getElem_cons_succ, List.getElem_cons_zero]); go_simp)
            try with_reducible rfl
          try simp only [List.getElem_toArray, List.getElem_cons_succ, List.getElem_cons_zero, Act.put, List.setIfInBounds_toArray, List.set_cons_zero, List.set_cons_succ]
          refine wpAnyH_take (i := 17) (v := ?_) rfl (by decide +kernel) (by decide +kernel) (by decide +kernel) (fun _ _ _ h => h) (Or.inl ⟨by rfl, ?_⟩) (by assumption) ?_
          rotate_left
          · (intro w hSw; (try dsimp only at hSw); (try dsimp only [List.getElem_toArray, List.getElem_cons_succ, List.getElem_cons_zero]); go_simp)
            try with_reducible rfl
          try simp only [List.getElem_toArray, List.getElem_cons_succ, List.getElem_cons_zero, Act.put, List.setIfInBounds_toArray, List.set_cons_zero, List.set_cons_succ]
          refine wpAnyH_take (i := 18) (v := ?_) rfl (by decide +kernel) (by decide +kernel) (by decide +kernel) (fun _ _ _ h => h) (Or.inl ⟨by rfl, ?_⟩) (by assumption) ?_
          rotate_left
          · (intro w hSw; (try dsimp only at hSw); (try dsimp only [List.getElem_toArray, List.getElem_cons_succ, List.getElem_cons_zero]); go_simp)
            try with_reducible rfl
          try simp only [List.getElem_toArray, List.getElem_cons_succ, List.getElem_cons_zero, Act.put, List.setIfInBounds_toArray, List.set_cons_zero, List.set_cons_succ]
          refine wpAnyH_take (i := 19) (v := ?_) rfl (by decide +kernel) (by decide +kernel) (by decide +kernel) (fun _ _ _ h => h) (Or.inl ⟨by rfl, ?_⟩) (by assumption) ?_
          rotate_left
          · (intro w hSw; (try dsimp only at hSw); (try dsimp only [List.getElem_toArray, List.getElem_cons_succ, List.getElem_cons_zero]); go_simp)
            try with_reducible rfl
          try simp only [List.getElem_toArray, List.getElem_cons_succ, List.getElem_cons_zero, Act.put, List.setIfInBounds_toArray, List.set_cons_zero, List.set_cons_succ]
          refine wpAnyH_take (i := 20) (v := ?_) rfl (by decide +kernel) (by decide +kernel) (by decide +kernel) (fun _ _ _ h => h) (Or.inl ⟨by rfl, ?_⟩) (by assumption) ?_
          rotate_left
          · (intro w hSw; (try dsimp only at hSw); (try dsimp only [List.getElem_toArray, List.getElem_cons_succ, List.getElem_cons_zero]); go_simp)
            try with_reducible rfl
          try simp only [List.getElem_toArray, List.getElem_cons_succ, List.getElem_cons_zero, Act.put, List.setIfInBounds_toArray, List.set_cons_zero, List.set_cons_succ]
          refine wpAnyH_take (i := 21) (v := ?_) rfl (by decide +kernel) (by decide +kernel) (by decide +kernel) (fun _ _ _ h => h) (Or.inl ⟨by rfl, ?_⟩) (by assumption) ?_
          rotate_left
          · (intro w hSw; (try dsimp only at hSw); (try dsimp only [List.getElem_toArray, List.getElem_cons_succ, List.getElem_cons_zero]); go_simp)
            try with_reducible rfl
          try simp only [List.getElem_toArray, List.getElem_cons_succ, List.getElem_cons_zero, Act.put, List.setIfInBounds_toArray, List.set_cons_zero, List.set_cons_succ]
          refine wpAnyH_take (i := 22) (v := ?_) rfl (by decide +kernel) (by decide +kernel) (by decide +kernel) (fun _ _ _ h => h) (Or.inl ⟨by rfl, ?_⟩) (by assumption) ?_
          rotate_left
          · (intro w hSw; (try dsimp only at hSw); (try dsimp only [List.getElem_toArray, List.getElem_cons_succ, List.getElem_cons_zero]); go_simp)
            try with_reducible rfl
          try simp only [List.getElem_toArray, List.getElem_cons_succ, List.getElem_cons_zero, Act.put, List.setIfInBounds_toArray, List.set_cons_zero, List.set_cons_succ]
          refine wpAnyH_take (i := 23) (v := ?_) rfl (by decide +kernel) (by decide +kernel) (by decide +kernel) (fun _ _ _ h => h) (Or.inl ⟨by rfl, ?_⟩) (by assumption) ?_
          rotate_left
          · (intro w hSw; (try dsimp only at hSw); (try dsimp only [List.getElem_toArray, List.getElem_cons_succ, List.getElem_cons_zero]); go_simp)
            try with_reducible rfl
          try simp only [List.getElem_toArray, List.getElem_cons_succ, List.getElem_cons_zero, Act.put, List.setIfInBounds_toArray, List.set_cons_zero, List.set_cons_succ]
          refine wpAnyH_take (i := 24) (v := ?_) rfl (by decide +kernel) (by decide +kernel) (by decide +kernel) (fun _ _ _ h => h) (Or.inl ⟨by rfl, ?_⟩) (by assumption) ?_
          rotate_left
          · (intro w hSw; (try dsimp only at hSw); (try dsimp only [List.getElem_toArray, List.getElem_cons_succ, List.getElem_cons_zero]); go_simp)
            try with_reducible rfl
          try simp only [List.getElem_toArray, List.getElem_cons_succ, List.getElem_cons_zero, Act.put, List.setIfInBounds_toArray, List.set_cons_zero, List.set_cons_succ]
          refine wpAnyH_take (i := 25) (v := ?_) rfl (by decide +kernel) (by decide +kernel) (by decide +kernel) (fun _ _ _ h => h) (Or.inl ⟨by rfl, ?_⟩) (by assumption) ?_
          rotate_left
          · (intro w hSw; (try dsimp only at hSw); (try dsimp only [List.getElem_toArray, List.getElem_cons_succ, List.getElem_cons_zero]); go_simp)
            try with_reducible rfl
          try simp only [List.getElem_toArray, List.getElem_cons_succ, List.getElem_cons_zero, Act.put, List.setIfInBounds_toArray, List.set_cons_zero, List.set_cons_succ]
          refine wpAnyH_take (i := 26) (v := ?_) rfl (by decide +kernel) (by decide +kernel) (by decide +kernel) (fun _ _ _ h => h) (Or.inl ⟨by rfl, ?_⟩) (by assumption) ?_
          rotate_left
          · (intro w hSw; (try dsimp only at hSw); (try dsimp only [List.getElem_toArray, List.getElem_cons_succ, List.getElem_cons_zero]); go_simp)
            try with_reducible rfl
          try simp only [List.getElem_toArray, List.getElem_cons_succ, List.getElem_cons_zero, Act.put, List.setIfInBounds_toArray, List.set_cons_zero, List.set_cons_succ]
          refine wpAnyH_take (i := 27) (v := ?_) rfl (by decide +kernel) (by decide +kernel) (by decide +kernel) (fun _ _ _ h => h) (Or.inl ⟨by rfl, ?_⟩) (by assumption) ?_
          rotate_left
          · (intro w hSw; (try dsimp only at hSw); (try dsimp only [List.getElem_toArray, List.getElem_cons_succ, List.getElem_cons_zero]); go_simp)
            try with_reducible rfl
          try simp only [List.getElem_toArray, List.getElem_cons_succ, List.getElem_cons_zero, Act.put, List.setIfInBounds_toArray, List.set_cons_zero, List.set_cons_succ]
          refine wpAnyH_take (i := 28) (v := ?_) rfl (by decide +kernel) (by decide +kernel) (by decide +kernel) (fun _ _ _ h => h) (Or.inl ⟨by rfl, ?_⟩) (by assumption) ?_
          rotate_left
          · (intro w hSw; (try dsimp only at hSw); (try dsimp only [List.getElem_toArray, List.getElem_cons_succ, List.getElem_cons_zero]); go_simp)
            try with_reducible rfl
          try simp only [List.getElem_toArray, List.getElem_cons_succ, List.getElem_cons_zero, Act.put, List.setIfInBounds_toArray, List.set_cons_zero, List.set_cons_succ]
          refine wpAnyH_take (i := 29) (v := ?_) rfl (by decide +kernel) (by decide +kernel) (by decide +kernel) (fun _ _ _ h => h) (Or.inl ⟨by rfl, ?_⟩) (by assumption) ?_
          rotate_left
          · (intro w hSw; (try dsimp only at hSw); (try dsimp only [List.getElem_toArray, List.getElem_cons_succ, List.getElem_cons_zero]); go_simp)
            try with_reducible rfl
          try simp only [List.getElem_toArray, List.getElem_cons_succ, List.getElem_cons_zero, Act.put, List.setIfInBounds_toArray, List.set_cons_zero, List.set_cons_succ]
          refine wpAnyH_take (i := 30) (v := ?_) rfl (by decide +kernel) (by decide +kernel) (by decide +kernel) (fun _ _ _ h => h) (Or.inl ⟨by rfl, ?_⟩) (by assumption) ?_
          rotate_left
          · (intro w hSw; (try dsimp only at hSw); (try dsimp only [List.getElem_toArray, List.getElem_cons_succ, List.getElem_cons_zero]); go_simp)
            try with_reducible rfl
          try simp only [List.getElem_toArray, List.getElem_cons_succ, List.getElem_cons_zero, Act.put, List.setIfInBounds_toArray, List.set_cons_zero, List.set_cons_succ]
          refine wpAnyH_ready (rs := [4, 31]) (by kernel_rfl) (by simp) ?_
          refine AllReadyH.cons rfl (fun K hK => ?_) (AllReadyH.cons rfl (fun K hK => ?_) AllReadyH.nil)
          rotate_left
          try dsimp only [List.getElem_toArray, List.getElem_cons_succ, List.getElem_cons_zero]
          go_simp
          clear hHeld
          refine hK.out _ _ ?_ (fun hHeld => ?_)
          · (try dsimp only); (first | done | (first | (exact keep_acc n1 n2 n3 ⟨z1, z2, z3, z4, z5, z6, z7⟩) | go_keep | fail))
          clear hK K
          try simp only [List.getElem_toArray, List.getElem_cons_succ, List.getElem_cons_zero, Act.put, List.setIfInBounds_toArray, List.set_cons_zero, List.set_cons_succ]
          refine wpAnyH_ready (rs := [4]) (by kernel_rfl) (by simp) ?_
          refine AllReadyH.cons rfl (fun K hK => ?_) AllReadyH.nil
          try dsimp only [List.getElem_toArray, List.getElem_cons_succ, List.getElem_cons_zero]
          go_simp
          clear hHeld
          refine hK.out _ _ ?_ (fun hHeld => ?_)
          · (try dsimp only); (first | done | (first | (exact keep_acc n1 n2 n3 ⟨z1, z2, z3, z4, z5, z6, z7⟩) | go_keep | fail))
          clear hK K
          try simp only [List.getElem_toArray, List.getElem_cons_succ, List.getElem_cons_zero, Act.put, List.setIfInBounds_toArray, List.set_cons_zero, List.set_cons_succ]
          refine wpAnyH_ready (rs := [32]) (by kernel_rfl) (by simp) ?_
          refine AllReadyH.cons rfl (fun K hK => ?_) AllReadyH.nil
          ((refine step_append_lies _ (by rfl) _ _ _ (by rfl) z.B 130 i0 _ 4 32 Tryz.underlying95 hi0 hz0 hz1 hz2 rfl (by omega) (.slice Uj sj.accs.length ucj) sj.accs.length _ (by rfl) HOR.out ⟨wr.heap.size, 0, none⟩ 1 1 [.int .i64 k, .int .i64 cell, .bool true, .int .i64 sj.phase] (by rfl) (by rfl) (World.news_of_block (cs := #[.int .i64 k, .int .i64 cell, .bool true, .int .i64 sj.phase]) (t := 130) (fr := (0, 0)) hnew) (by simp [Value.oneCell']) (by omega) (by unfold maxLen; omega) (by omega) (by simp; omega) (wr.heap.size + 1) (by simp) ?_; intro gg cap w3 ho3 hgrow hat hlt3; obtain ⟨z1, z2, z3, z4, z5, z6, z7, z8, z9⟩ := HCL.out w3 (grown_drew2' hgrow)))
          clear hHeld
          refine hK.out _ _ ?_ (fun hHeld => ?_)
          · (try dsimp only); (first | done | (first | (exact keep_acc n1 n2 n3 ⟨z1, z2, z3, z4, z5, z6, z7⟩) | go_keep | fail))
          clear hK K
          try simp only [List.getElem_toArray, List.getElem_cons_succ, List.getElem_cons_zero, Act.put, List.setIfInBounds_toArray, List.set_cons_zero, List.set_cons_succ]
          refine wpAnyH_take (i := 33) (v := ?_) rfl (by decide +kernel) (by decide +kernel) (by decide +kernel) (fun _ _ _ h => h) (Or.inl ⟨by rfl, ?_⟩) (by assumption) ?_
          rotate_left
          · (intro w hSw; (try dsimp only at hSw); (try dsimp only [List.getElem_toArray, List.getElem_cons_succ, List.getElem_cons_zero]); go_simp)
            try with_reducible rfl
          try simp only [List.getElem_toArray, List.getElem_cons_succ, List.getElem_cons_zero, Act.put, List.setIfInBounds_toArray, List.set_cons_zero, List.set_cons_succ]
          refine wpAnyH_take (i := 34) (v := ?_) rfl (by decide +kernel) (by decide +kernel) (by decide +kernel) (fun _ _ _ h => h) (Or.inl ⟨by rfl, ?_⟩) (by assumption) ?_
          rotate_left
          · (intro w hSw; (try dsimp only at hSw); (try dsimp only [List.getElem_toArray, List.getElem_cons_succ, List.getElem_cons_zero]); go_simp)
            try with_reducible rfl
          try simp only [List.getElem_toArray, List.getElem_cons_succ, List.getElem_cons_zero, Act.put, List.setIfInBounds_toArray, List.set_cons_zero, List.set_cons_succ]
          refine wpAnyH_ready (rs := [35]) (by kernel_rfl) (by simp) ?_
          refine AllReadyH.cons rfl (fun K hK => ?_) AllReadyH.nil
          try dsimp only [List.getElem_toArray, List.getElem_cons_succ, List.getElem_cons_zero]
          go_simp
          clear hHeld
          refine hK.out _ _ ?_ (fun hHeld => ?_)
          · (try dsimp only); (first | done | (first | (exact keep_acc n1 n2 n3 ⟨z1, z2, z3, z4, z5, z6, z7⟩) | go_keep | fail))
          clear hK K
          try simp only [List.getElem_toArray, List.getElem_cons_succ, List.getElem_cons_zero, Act.put, List.setIfInBounds_toArray, List.set_cons_zero, List.set_cons_succ]
          refine wpAnyH_done (by kernel_rfl) ?_ _
          rotate_left
          try dsimp only [List.getElem_toArray, List.getElem_cons_succ, List.getElem_cons_zero]
          go_simp
          clear hHeld
          refine hK.out _ _ ?_ (fun hHeld => ?_)
          · (try dsimp only); (first | done | (first | (exact keep_acc n1 n2 n3 ⟨z1, z2, z3, z4, z5, z6, z7⟩) | go_keep | fail))
          clear hK K
          try simp only [List.getElem_toArray, List.getElem_cons_succ, List.getElem_cons_zero, Act.put, List.setIfInBounds_toArray, List.set_cons_zero, List.set_cons_succ]
          refine wpAnyH_ready (rs := [31]) (by kernel_rfl) (by simp) ?_
          refine AllReadyH.cons rfl (fun K hK => ?_) AllReadyH.nil
          try dsimp only [List.getElem_toArray, List.getElem_cons_succ, List.getElem_cons_zero]
          go_simp
          clear hHeld
          refine hK.out _ _ ?_ (fun hHeld => ?_)
          · (try dsimp only); (first | done | (first | (exact keep_acc n1 n2 n3 ⟨z1, z2, z3, z4, z5, z6, z7⟩) | go_keep | fail))
          clear hK K
          try simp only [List.getElem_toArray, List.getElem_cons_succ, List.getElem_cons_zero, Act.put, List.setIfInBounds_toArray, List.set_cons_zero, List.set_cons_succ]
          refine wpAnyH_ready (rs := [32]) (by kernel_rfl) (by simp) ?_
          refine AllReadyH.cons rfl (fun K hK => ?_) AllReadyH.nil
          ((refine step_append_lies _ (by rfl) _ _ _ (by rfl) z.B 130 i0 _ 4 32 Tryz.underlying95 hi0 hz0 hz1 hz2 rfl (by omega) (.slice Uj sj.accs.length ucj) sj.accs.length _ (by rfl) HOR.out ⟨wr.heap.size, 0, none⟩ 1 1 [.int .i64 k, .int .i64 cell, .bool true, .int .i64 sj.phase] (by rfl) (by rfl) (World.news_of_block (cs := #[.int .i64 k, .int .i64 cell, .bool true, .int .i64 sj.phase]) (t := 130) (fr := (0, 0)) hnew) (by simp [Value.oneCell']) (by omega) (by unfold maxLen; omega) (by omega) (by simp; omega) (wr.heap.size + 1) (by simp) ?_; intro gg cap w3 ho3 hgrow hat hlt3; obtain ⟨z1, z2, z3, z4, z5, z6, z7, z8, z9⟩ := HCL.out w3 (grown_drew2' hgrow)))
          clear hHeld
          refine hK.out _ _ ?_ (fun hHeld => ?_)
          · (try dsimp only); (first | done | (first | (exact keep_acc n1 n2 n3 ⟨z1, z2, z3, z4, z5, z6, z7⟩) | go_keep | fail))
          clear hK K
          try simp only [List.getElem_toArray, List.getElem_cons_succ, List.getElem_cons_zero, Act.put, List.setIfInBounds_toArray, List.set_cons_zero, List.set_cons_succ]
          refine wpAnyH_take (i := 33) (v := ?_) rfl (by decide +kernel) (by decide +kernel) (by decide +kernel) (fun _ _ _ h => h) (Or.inl ⟨by rfl, ?_⟩) (by assumption) ?_
          rotate_left
          · (intro w hSw; (try dsimp only at hSw); (try dsimp only [List.getElem_toArray, List.getElem_cons_succ, List.getElem_cons_zero]); go_simp)
            try with_reducible rfl
          try simp only [List.getElem_toArray, List.getElem_cons_succ, List.getElem_cons_zero, Act.put, List.setIfInBounds_toArray, List.set_cons_zero, List.set_cons_succ]
          refine wpAnyH_take (i := 34) (v := ?_) rfl (by decide +kernel) (by decide +kernel) (by decide +kernel) (fun _ _ _ h => h) (Or.inl ⟨by rfl, ?_⟩) (by assumption) ?_
          rotate_left
          · (intro w hSw; (try dsimp only at hSw); (try dsimp only [List.getElem_toArray, List.getElem_cons_succ, List.getElem_cons_zero]); go_simp)
            try with_reducible rfl
          try simp only [List.getElem_toArray, List.getElem_cons_succ, List.getElem_cons_zero, Act.put, List.setIfInBounds_toArray, List.set_cons_zero, List.set_cons_succ]
          refine wpAnyH_ready (rs := [35]) (by kernel_rfl) (by simp) ?_
          refine AllReadyH.cons rfl (fun K hK => ?_) AllReadyH.nil
          try dsimp only [List.getElem_toArray, List.getElem_cons_succ, List.getElem_cons_zero]
          go_simp
          clear hHeld
          refine hK.out _ _ ?_ (fun hHeld => ?_)
          · (try dsimp only); (first | done | (first | (exact keep_acc n1 n2 n3 ⟨z1, z2, z3, z4, z5, z6, z7⟩) | go_keep | fail))
          clear hK K
          try simp only [List.getElem_toArray, List.getElem_cons_succ, List.getElem_cons_zero, Act.put, List.setIfInBounds_toArray, List.set_cons_zero, List.set_cons_succ]
          refine wpAnyH_done (by kernel_rfl) ?_ _
          all_goals
            clear hHeld
            obtain ⟨⟨hI4, hst4⟩, hO4⟩ := HF.out _ _ _ (grown_drew2' hgrow) ho3
            clear z1 z2 z3 z4 z5 z6 z7 z8 z9 ho3 hgrow hat hlt3 c1 c2 c4 c5 hrow hreg d0 d1 d2 d3 g1 hnew hmod hwr hmnz hal n1 n2 n3 hxb4 hi0 hz0 hz1 hz2
            generalize w3.setCell ⟨z.g, 4, none⟩ (.slice (some ⟨gg, 0, none⟩) (sj.accs.length + 1) cap) = w4 at *
            clear w3
            have hst5 := hstj.trans hst4
            have hc4 := hst4.code hcj.out
            have hs4 := hst4.size
            obtain ⟨c0, c1, c2, c3, c4, c5, -⟩ := hI4.cells
            have hrow := hI4.rowAt hkn
            have d0 := cell_of_heap hc4 0
            have d1 := cell_of_heap hc4 1
            have d2 := cell_of_heap hc4 2
            have d3 := cell_of_heap hc4 3
            have HI4 := Lib.hid hI4
            clear hI4 c0 c3 c4 c5 hOj
            go_wp2_with fail
            go_still_tail 13, (by kernel_rfl)
            go_wp2_with fail
            have hXd : Ext w4 w4.drew := Ext.drew w4
            have hBn : z.B ≤ w4.heap.size := by omega
            have hId := HI4.out.ext hXd hBn
            refine (compute_c x k (sj.regs.getD k []) sj.mem z.B (z.rk k) 4 z.mb z.mc sj.mem.length _ HV.out h10 hk7 (hId.innA hkn) hId.memA (hId.mne k hkn) (hokj.get hkn).2 hokj.memw ⟨hokj.mem1, hokj.mem2⟩).mono ?_
            rintro e w6 ⟨rfl, hs⟩
            obtain ⟨hI6, hst6⟩ := hId.simpA hkn hokj hBn HMO.out HQ.out hs
            have hst7 := (hst5.trans (StI.of_ext hXd hBn)).trans hst6
            have hc6 := Lib.hid (hst6.code (hXd.heap_ hc4))
            have hO6 := OR.off (OR.ext hO4 hXd) hs.2.2 (fun e => by have := (OR.block hO4 _ e).1; have := HRK.out k hkn; omega) (fun e => by have := (OR.block hO4 _ e).1; have := HMB.out; omega)
            have hok6 := hokj.exec1 HV.out hkn
            have ha6 := exec1_acc x sj k
            have hp6 : (exec1 x sj k).phase = sj.phase := rfl
            rw [hFT.out] at hI6 hok6 ha6 hp6
            clear hId hs hst6 hXd
            go_wp2
            refine ⟨⟨j + 1, _, _, _, by omega, by go_num, Lib.hid rfl, hI6, hok6, by omega, by rw [hp6, HPJ.out], hO6, hc6, hst7⟩, ?_⟩
            simp [intOf]; omega
    · obtain rfl : j = (lanesOf m).length := by omega
      have hfin := Lib.hid (show execM x m s = if x.op == 10 then { sj with phase := sj.phase + 1 } else sj by unfold execM; rw [HSJ.out, foldTo_all])
      obtain ⟨c0, c1, c2, c3, c4, c5, c6⟩ := hIj.cells
      have f5 := hIj.free 5
      have HI := Lib.hid hIj
      clear hIj c0 c1 c2 c3 c4 c6
      cases e10 : x.op == 10 with
      | true =>
        have q1 : IntKind.i64.wrap ((sj.phase : Int) + 1) = (sj.phase : Int) + 1 := IntWalk.i64_in _ (by have := HPJ.out; omega)
        have hp := HI.out.pha (show z.B ≤ wr.heap.size by omega) (sj.phase + 1)
        have hF2 := hfin.out
        rw [e10, if_pos rfl] at hF2
        have HF2 := Lib.hid hF2
        clear hfin hF2
        go_wp2
        go_end0
        have hp1 := hp.1
        rw [← HF2.out] at hp1
        first | exact ⟨rfl, Uj, ucj, hp1, hstj.trans hp.2⟩ | exact ⟨rfl, ⟨Uj, ucj, hp1⟩, hstj.trans hp.2⟩
      | false =>
        have hF2 := hfin.out
        rw [e10, if_neg (by simp)] at hF2
        have HF2 := Lib.hid hF2
        clear hfin hF2
        go_wp2
        go_end0
        have hp1 := HI.out
        rw [← HF2.out] at hp1
        first | exact ⟨rfl, Uj, ucj, hp1, hstj⟩ | exact ⟨rfl, ⟨Uj, ucj, hp1⟩, hstj⟩

end Go.Proofs.YtelbfeidpcojmaaGreat
