/- Part 18 of what the claim needs. -/
import Derived.Test.YtelbfeidpcojmaaRg4
import Derived.Test.YtelbfeidpcojmaaRg16
import Derived.Test.YtelbfeidpcojmaaRg17
namespace Go.Proofs.Ytelbfeidpcojmaa
open Go.RowKit
set_option linter.unusedVariables false
set_option linter.unusedSimpArgs false

set_option maxRecDepth 100000 in
set_option maxHeartbeats 16000000 in
theorem sRunGroups_ok (A M X : Option Addr) (ca cm cx : Nat) (l : List Cd) (N S : Nat) (m xs : List Int) (w : World) (hA : RdC w w.heap.size A l) (hM : RdI w w.heap.size M m) (hX : RdI w w.heap.size X xs)
    (hlo : lockOk l N m = true) (hor : ordOk xs (grMany N S) = true) (S1 : 1 ≤ S) (S8 : S ≤ 8)
    (N1 : 1 ≤ N) (N8 : N ≤ 8) (x1 : 1 ≤ xs.length) (x40 : xs.length ≤ 40) (hxs : ∀ x ∈ xs, ∃ g : Nat, x = (g : Int) ∧ g * S < N ∧ g ≤ 8) (hsch : SchOk N xs.length (grSch N S xs)) (hp : pv l = true) (hw : wordsOk m) (hm1 : 1 ≤ m.length) (hm32 : m.length ≤ 32) :
    Calls Try.prog 9 #[.slice A l.length ca, .int .i64 N, .int .i64 S, .slice M m.length cm, .slice X xs.length cx] w (GmP w (runE l (grSch N S xs) (Cw.start N m)).mem) := by
  have HA := Lib.hid hA
  have HX := Lib.hid hX
  have hl40 := (pv_iff.1 hp).1
  have h0 : CwOk l N (Cw.start N m) := CwOk.start hw
  have hn0 := start_nrm (l := l) N1 m
  obtain ⟨T1, T2, T3⟩ := run_T hp N8 hsch h0 hn0
  have HT1 := Lib.hid T1
  have HT2 := Lib.hid T2
  have HRO := Lib.hid (fun i => run_ok' hp N8 hsch h0 hn0 i)
  have HXS := Lib.hid hxs
  have HRE : Hid (runE l (grSch N S xs) (Cw.start N m) = runC l (grSch N S xs) (Cw.start N m) (endT l (grSch N S xs) (Cw.start N m))) := Lib.hid rfl
  have HDO := Lib.hid (fun i => done_over (run_ok' hp N8 hsch h0 hn0 i).1 (run_ok' hp N8 hsch h0 hn0 i).2.1)
  have hc0 : runC l (grSch N S xs) (Cw.start N m) 0 = Cw.start N m := rfl
  have HC0 := Lib.hid hc0
  have HSP := Lib.hid (fun W a b => sl8Ok_c A M ca cm l N m W a b (by omega) (by omega))
  have HSO := Lib.hid (fun W a => sOrderValid_c X cx xs (grMany N S) W a (by omega))
  have HSG := Lib.hid (fun W => sGroupsMany_c N S W)
  rw [hlo] at HSP
  rw [hor] at HSO
  have HNC := Lib.hid (fun W a => sNewCrowd_c M cm m N W a ⟨N1, N8⟩ ⟨hm1, hm32⟩ hw)
  clear hxs hsch h0 hn0 T1 T2 T3 hc0 hw hor hlo
  have HSE := Lib.hid (fun i => show runC l (grSch N S xs) (Cw.start N m) (i + 1) = stepG l (runC l (grSch N S xs) (Cw.start N m) i) (grSch N S xs i) from rfl)
  have HGS := Lib.hid (fun (i g : Nat) (h : xs[i % xs.length]? = some (g : Int)) => show grSch N S xs i = grL N S g by unfold grSch; rw [List.getD_eq_getElem?_getD, h]; simp)
  generalize hTe : endT l (grSch N S xs) (Cw.start N m) = T at *
  clear hTe
  generalize grMany (N : Int) (S : Int) = gm at *
  generalize grSch N S xs = sch at *
  go_enter Try.func9, Try.ntmps9
  go_wp2_with fail
  refine (HSP.out w hA hM).mono ?_
  rintro e w1 ⟨rfl, b1⟩
  have HB1 := Lib.hid b1
  have hX1 := (hX.below b1).more b1.size
  have hM1 := (hM.below b1).more b1.size
  clear b1
  go_wp2_with fail
  refine (HSG.out w1).mono ?_
  rintro e w1' ⟨rfl, rfl⟩
  go_wp2_with fail
  refine (HSO.out w1 hX1).mono ?_
  rintro e w1' ⟨rfl, rfl⟩
  go_wp2_with fail
  refine (HNC.out w1 hM1).mono ?_
  rintro e w3 ⟨z, rfl, hC, b3⟩
  have hs3 := b3.size
  have hxA := Ext.alloc w3 (.cells #[.slice (some ⟨z.lb, 0, none⟩) N z.lc, .slice (some ⟨z.mb, 0, none⟩) m.length z.mc] 58)
  have hNA := heap_alloc_new w3 (.cells #[.slice (some ⟨z.lb, 0, none⟩) N z.lc, .slice (some ⟨z.mb, 0, none⟩) m.length z.mc] 58)
  have b4 := b3.alloc b3.size (.cells #[.slice (some ⟨z.lb, 0, none⟩) N z.lc, .slice (some ⟨z.mb, 0, none⟩) m.length z.mc] 58)
  have hC4 := hC.ext hxA
  have HB4 := Lib.hid (below_trans HB1.out (Nat.le_refl _) b4)
  have hw1 : w.heap.size ≤ w1.heap.size := HB1.out.size
  have HSC : Hid (SC (w3.alloc (.cells #[.slice (some ⟨z.lb, 0, none⟩) N z.lc, .slice (some ⟨z.mb, 0, none⟩) m.length z.mc] 58)) w.heap.size N w3.heap.size l z (runC l sch (Cw.start N m) 0)) := Lib.hid (by
    rw [HC0.out]
    have hr := HRO.out 0
    rw [HC0.out] at hr
    exact ⟨⟨OR.mono hC4.row hw1, fun k hk => OR.mono (hC4.regs k hk) hw1, fun k hk => OR.mono (hC4.turns k hk) hw1, OR.mono hC4.mem hw1, hC4.rm, hC4.rr, hC4.tm, hC4.tr, hC4.tt, trivial, trivial, fun _ _ => trivial, fun _ _ _ _ => trivial, fun _ _ => trivial⟩, hr.1, hNA, by omega, HB4.out.size⟩)
  clear hxA hNA b3 b4 hC hC4 hM hX hA hs3 hX1 hM1 HB1 hw1
  have hc0m : (Cw.start N m).mem.length = m.length := rfl
  generalize Cw.start N m = c0' at *
  have HCM := Lib.hid hc0m
  clear hc0m
  go_wp2_with fail
  generalize w3.alloc (.cells #[.slice (some ⟨z.lb, 0, none⟩) N z.lc, .slice (some ⟨z.mb, 0, none⟩) m.length z.mc] 58) = w4' at *
  generalize w3.heap.size = cb at *
  go_loopg [12] T (fun g kv wr => SoRel w N cb l sch xs.length c0' T g kv wr)
  case atStart => exact ⟨0, z, Nat.zero_add _, by rw [Nat.zero_mod]; rfl, HSC.out, HB4.out⟩
  case round =>
    obtain ⟨i, zi, hi, rfl, hCi, hb⟩ := hrel
    have HCi := Lib.hid hCi
    have HBr := Lib.hid hb
    have hBW := hCi.hB
    clear HSC HB4 hb
    have hme0 := (HRO.out i).2.2
    rw [HCM.out] at hme0
    have HME0 := Lib.hid hme0
    have c0 : wr.cell? ⟨cb, 0, none⟩ = some (.slice (some ⟨zi.lb, 0, none⟩) N zi.lc) := cell_of_heap hCi.blk 0
    have c1 : wr.cell? ⟨cb, 1, none⟩ = some (.slice (some ⟨zi.mb, 0, none⟩) m.length zi.mc) := (cell_of_heap hCi.blk 1).trans (by rw [hme0]; rfl)
    have hLD := Lib.hid (sl7Done_c (ca := ca) (A := A) hCi.cm hCi.ok N8)
    unfold cwV at hLD
    rw [hme0, HDO.out i] at hLD
    clear hCi hme0
    by_cases hlt : i < T
    · have hov := HT2.out i hlt
      rw [hov] at hLD
      have hmod : i % xs.length < xs.length := Nat.mod_lt _ (by omega)
      have hXr := (HX.out.below HBr.out)
      obtain ⟨xb, xo, x, rfl, hxB, hx, x0⟩ := hXr.at_ hmod
      obtain ⟨g, rfl, hgN, hg8⟩ := HXS.out x (List.mem_of_getElem? hx)
      have hgl : grL N S g = partL (g * S) (min (g * S + S) N - g * S) := grL_part N8 (by omega)
      have HGD := Lib.hid (show runC l sch c0' (i + 1) = passC l (runIn l (runC l sch c0' i) (g * S) (relM l (runC l sch c0' i) (g * S) (min (g * S + S) N - g * S)) (min (g * S + S) N - g * S)) from by rw [HSE.out i, HGS.out i g hx, hgl]; exact runIn_step _ _)
      have HNX := Lib.hid (next_mod (i := i) (n := xs.length) (by omega))
      have hlen0 : ((xs.length : Int) == 0) = false := beq_eq_false_iff_ne.2 (by omega)
      have e1 : ((g : Int) * (S : Int)) = ((g * S : Nat) : Int) := by simp
      clear hx hXr hgl
      generalize hlo : g * S = lo at *
      have HLO := Lib.hid hlo
      clear hlo
      obtain ⟨cnt, hcnt⟩ : ∃ cnt, min (lo + S) N - lo = cnt := ⟨_, rfl⟩
      rw [hcnt] at HGD
      generalize hq : i % xs.length = im at *
      have hmodI : (im : Int) < (xs.length : Int) := by omega
      clear hq
      go_wp2_with fail
      refine (hLD.out).mono ?_
      rintro e w5 ⟨rfl, hx6⟩
      have HC5 := Lib.hid (HCi.out.ext hx6)
      have HB5 := Lib.hid (HBr.out.trans (hx6.below.mono (by have := HBr.out.size; exact this)))
      replace c0 := hx6.cell c0
      replace c1 := hx6.cell c1
      replace x0 := hx6.cell x0
      clear hx6 hLD HCi HBr hBW
      generalize hce : runC l sch c0' i = ci at *
      have hcap : N ≤ zi.lc := OR.cap_ HC5.out.cm.row
      have hcapI : ¬ (zi.lc = lo) := by omega
      have hloc : lo ≤ zi.lc := by omega
      have hloI : (lo : Int) ≤ (zi.lc : Int) := by omega
      have hlo8 : (lo : Int) ≤ 8 := by omega
      have hlop : (0 : Int) ≤ (lo : Int) := by omega
      by_cases hmn : N ≤ lo + S
      · have hcn : cnt = N - lo := by omega
        have hmnI : (N : Int) ≤ (lo : Int) + (S : Int) := by omega
        have hhi : (lo : Int) ≤ (N : Int) := by omega
        have hhi2 : (N : Int) ≤ (zi.lc : Int) := by omega
        have hsub : (N : Int) - (lo : Int) = ((cnt : Nat) : Int) := by omega
        have hww : IntKind.i64.wrap (lo : Int) = (lo : Int) := IntWalk.i64_in _ (by omega)
        have hww2 : IntKind.i64.wrap ((lo : Int) + (S : Int)) = (lo : Int) + (S : Int) := IntWalk.i64_in _ (by omega)
        have hlt1 : ¬ ((lo : Int) + (S : Int) < (N : Int)) := by omega
        have hlt1F : ((lo : Int) + (S : Int) < (N : Int)) = False := eq_false hlt1
        have hmax : max (N : Int) 0 = (N : Int) := by omega
        have h0N : (0 : Int) ≤ (N : Int) := by omega
        have hxbl := World.block_lt_of_cell? w5 _ x0
        have hcbl0 := World.block_lt_of_cell? w5 _ c0
        simp only at hxbl hcbl0
        go_wp2_with fail
        refine wp_region_held_drew (S := fun w' => w'.cell? ⟨cb, 0, none⟩ = some (.slice (some ⟨zi.lb, 0, none⟩) N zi.lc) ∧ w'.cell? ⟨xb, xo + im, none⟩ = some (.int .i64 g)) (by kernel_rfl) ⟨c0, x0⟩ (fun hHeld => ?_)
        refine wpAnyH_take (i := 0) (v := ?_) rfl (by decide +kernel) (by decide +kernel) (by decide +kernel) (fun _ _ _ h => h) (Or.inl ⟨by rfl, ?_⟩) (by assumption) ?_
        rotate_left
        · (intro w hSw; (try dsimp only at hSw); obtain ⟨s0, s1⟩ := hSw; (try dsimp only [List.getElem_toArray, List.getElem_cons_succ, List.getElem_cons_zero]); go_simp)
          try with_reducible rfl
        try simp only [List.getElem_toArray, List.getElem_cons_succ, List.getElem_cons_zero, Act.put, List.setIfInBounds_toArray, List.set_cons_zero, List.set_cons_succ]
        refine wpAnyH_take (i := 1) (v := ?_) rfl (by decide +kernel) (by decide +kernel) (by decide +kernel) (fun _ _ _ h => h) (Or.inl ⟨by rfl, ?_⟩) (by assumption) ?_
        rotate_left
        · (intro w hSw; (try dsimp only at hSw); obtain ⟨s0, s1⟩ := hSw; (try dsimp only [List.getElem_toArray, List.getElem_cons_succ, List.getElem_cons_zero]); go_simp)
          try with_reducible rfl
        try simp only [List.getElem_toArray, List.getElem_cons_succ, List.getElem_cons_zero, Act.put, List.setIfInBounds_toArray, List.set_cons_zero, List.set_cons_succ]
        refine wpAnyH_take (i := 2) (v := ?_) rfl (by decide +kernel) (by decide +kernel) (by decide +kernel) (fun _ _ _ h => h) (Or.inl ⟨by rfl, ?_⟩) (by assumption) ?_
        rotate_left
        · (intro w hSw; (try dsimp only at hSw); obtain ⟨s0, s1⟩ := hSw; (try dsimp only [List.getElem_toArray, List.getElem_cons_succ, List.getElem_cons_zero]); go_simp)
          try with_reducible rfl
        try simp only [List.getElem_toArray, List.getElem_cons_succ, List.getElem_cons_zero, Act.put, List.setIfInBounds_toArray, List.set_cons_zero, List.set_cons_succ]
        refine wpAnyH_take (i := 3) (v := ?_) rfl (by decide +kernel) (by decide +kernel) (by decide +kernel) (fun _ _ _ h => h) (Or.inl ⟨by rfl, ?_⟩) (by assumption) ?_
        rotate_left
        · (intro w hSw; (try dsimp only at hSw); obtain ⟨s0, s1⟩ := hSw; (try dsimp only [List.getElem_toArray, List.getElem_cons_succ, List.getElem_cons_zero]); go_simp)
          try with_reducible rfl
        try simp only [List.getElem_toArray, List.getElem_cons_succ, List.getElem_cons_zero, Act.put, List.setIfInBounds_toArray, List.set_cons_zero, List.set_cons_succ]
        refine wpAnyH_take (i := 4) (v := ?_) rfl (by decide +kernel) (by decide +kernel) (by decide +kernel) (fun _ _ _ h => h) (Or.inl ⟨by rfl, ?_⟩) (by assumption) ?_
        rotate_left
        · (intro w hSw; (try dsimp only at hSw); obtain ⟨s0, s1⟩ := hSw; (try dsimp only [List.getElem_toArray, List.getElem_cons_succ, List.getElem_cons_zero]); go_simp)
          try with_reducible rfl
        try simp only [List.getElem_toArray, List.getElem_cons_succ, List.getElem_cons_zero, Act.put, List.setIfInBounds_toArray, List.set_cons_zero, List.set_cons_succ]
        refine wpAnyH_take (i := 5) (v := ?_) rfl (by decide +kernel) (by decide +kernel) (by decide +kernel) (fun _ _ _ h => h) (Or.inl ⟨by rfl, ?_⟩) (by assumption) ?_
        rotate_left
        · (intro w hSw; (try dsimp only at hSw); obtain ⟨s0, s1⟩ := hSw; (try dsimp only [List.getElem_toArray, List.getElem_cons_succ, List.getElem_cons_zero]); go_simp)
          try with_reducible rfl
        try simp only [List.getElem_toArray, List.getElem_cons_succ, List.getElem_cons_zero, Act.put, List.setIfInBounds_toArray, List.set_cons_zero, List.set_cons_succ]
        refine wpAnyH_take (i := 6) (v := ?_) rfl (by decide +kernel) (by decide +kernel) (by decide +kernel) (fun _ _ _ h => h) (Or.inl ⟨by rfl, ?_⟩) (by assumption) ?_
        rotate_left
        · (intro w hSw; (try dsimp only at hSw); obtain ⟨s0, s1⟩ := hSw; (try dsimp only [List.getElem_toArray, List.getElem_cons_succ, List.getElem_cons_zero]); go_simp)
          try with_reducible rfl
        try simp only [List.getElem_toArray, List.getElem_cons_succ, List.getElem_cons_zero, Act.put, List.setIfInBounds_toArray, List.set_cons_zero, List.set_cons_succ]
        refine wpAnyH_take (i := 7) (v := ?_) rfl (by decide +kernel) (by decide +kernel) (by decide +kernel) (fun _ _ _ h => h) (Or.inl ⟨by rfl, ?_⟩) (by assumption) ?_
        rotate_left
        · (intro w hSw; (try dsimp only at hSw); obtain ⟨s0, s1⟩ := hSw; (try dsimp only [List.getElem_toArray, List.getElem_cons_succ, List.getElem_cons_zero]); go_simp)
          try with_reducible rfl
        try simp only [List.getElem_toArray, List.getElem_cons_succ, List.getElem_cons_zero, Act.put, List.setIfInBounds_toArray, List.set_cons_zero, List.set_cons_succ]
        refine wpAnyH_take (i := 8) (v := ?_) rfl (by decide +kernel) (by decide +kernel) (by decide +kernel) (fun _ _ _ h => h) (Or.inl ⟨by rfl, ?_⟩) (by assumption) ?_
        rotate_left
        · (intro w hSw; (try dsimp only at hSw); obtain ⟨s0, s1⟩ := hSw; (try dsimp only [List.getElem_toArray, List.getElem_cons_succ, List.getElem_cons_zero]); go_simp)
          try with_reducible rfl
        try simp only [List.getElem_toArray, List.getElem_cons_succ, List.getElem_cons_zero, Act.put, List.setIfInBounds_toArray, List.set_cons_zero, List.set_cons_succ]
        refine wpAnyH_take (i := 9) (v := ?_) rfl (by decide +kernel) (by decide +kernel) (by decide +kernel) (fun _ _ _ h => h) (Or.inl ⟨by rfl, ?_⟩) (by assumption) ?_
        rotate_left
        · (intro w hSw; (try dsimp only at hSw); obtain ⟨s0, s1⟩ := hSw; (try dsimp only [List.getElem_toArray, List.getElem_cons_succ, List.getElem_cons_zero]); go_simp)
          try with_reducible rfl
        try simp only [List.getElem_toArray, List.getElem_cons_succ, List.getElem_cons_zero, Act.put, List.setIfInBounds_toArray, List.set_cons_zero, List.set_cons_succ]
        refine wpAnyH_take (i := 10) (v := ?_) rfl (by decide +kernel) (by decide +kernel) (by decide +kernel) (fun _ _ _ h => h) (Or.inl ⟨by rfl, ?_⟩) (by assumption) ?_
        rotate_left
        · (intro w hSw; (try dsimp only at hSw); obtain ⟨s0, s1⟩ := hSw; (try dsimp only [List.getElem_toArray, List.getElem_cons_succ, List.getElem_cons_zero]); go_simp)
          try with_reducible rfl
        try simp only [List.getElem_toArray, List.getElem_cons_succ, List.getElem_cons_zero, Act.put, List.setIfInBounds_toArray, List.set_cons_zero, List.set_cons_succ]
        refine wpAnyH_take (i := 11) (v := ?_) rfl (by decide +kernel) (by decide +kernel) (by decide +kernel) (fun _ _ _ h => h) (Or.inl ⟨by rfl, ?_⟩) (by assumption) ?_
        rotate_left
        · (intro w hSw; (try dsimp only at hSw); obtain ⟨s0, s1⟩ := hSw; (try dsimp only [List.getElem_toArray, List.getElem_cons_succ, List.getElem_cons_zero]); go_simp)
          try with_reducible rfl
        try simp only [List.getElem_toArray, List.getElem_cons_succ, List.getElem_cons_zero, Act.put, List.setIfInBounds_toArray, List.set_cons_zero, List.set_cons_succ]
        refine wpAnyH_take (i := 12) (v := ?_) rfl (by decide +kernel) (by decide +kernel) (by decide +kernel) (fun _ _ _ h => h) (Or.inl ⟨by rfl, ?_⟩) (by assumption) ?_
        rotate_left
        · (intro w hSw; (try dsimp only at hSw); obtain ⟨s0, s1⟩ := hSw; (try dsimp only [List.getElem_toArray, List.getElem_cons_succ, List.getElem_cons_zero]); go_simp)
          try with_reducible rfl
        try simp only [List.getElem_toArray, List.getElem_cons_succ, List.getElem_cons_zero, Act.put, List.setIfInBounds_toArray, List.set_cons_zero, List.set_cons_succ]
        refine wpAnyH_take (i := 13) (v := ?_) rfl (by decide +kernel) (by decide +kernel) (by decide +kernel) (fun _ _ _ h => h) (Or.inl ⟨by rfl, ?_⟩) (by assumption) ?_
        rotate_left
        · (intro w hSw; (try dsimp only at hSw); obtain ⟨s0, s1⟩ := hSw; (try dsimp only [List.getElem_toArray, List.getElem_cons_succ, List.getElem_cons_zero]); go_simp)
          try with_reducible rfl
        try simp only [List.getElem_toArray, List.getElem_cons_succ, List.getElem_cons_zero, Act.put, List.setIfInBounds_toArray, List.set_cons_zero, List.set_cons_succ]
        refine wpAnyH_take (i := 14) (v := ?_) rfl (by decide +kernel) (by decide +kernel) (by decide +kernel) (fun _ _ _ h => h) (Or.inl ⟨by rfl, ?_⟩) (by assumption) ?_
        rotate_left
        · (intro w hSw; (try dsimp only at hSw); obtain ⟨s0, s1⟩ := hSw; (try dsimp only [List.getElem_toArray, List.getElem_cons_succ, List.getElem_cons_zero]); go_simp)
          try with_reducible rfl
        try simp only [List.getElem_toArray, List.getElem_cons_succ, List.getElem_cons_zero, Act.put, List.setIfInBounds_toArray, List.set_cons_zero, List.set_cons_succ]
        refine wpAnyH_take (i := 15) (v := ?_) rfl (by decide +kernel) (by decide +kernel) (by decide +kernel) (fun _ _ _ h => h) (Or.inl ⟨by rfl, ?_⟩) (by assumption) ?_
        rotate_left
        · (intro w hSw; (try dsimp only at hSw); obtain ⟨s0, s1⟩ := hSw; (try dsimp only [List.getElem_toArray, List.getElem_cons_succ, List.getElem_cons_zero]); go_simp)
          try with_reducible rfl
        try simp only [List.getElem_toArray, List.getElem_cons_succ, List.getElem_cons_zero, Act.put, List.setIfInBounds_toArray, List.set_cons_zero, List.set_cons_succ]
        refine wpAnyH_take (i := 16) (v := ?_) rfl (by decide +kernel) (by decide +kernel) (by decide +kernel) (fun _ _ _ h => h) (Or.inl ⟨by rfl, ?_⟩) (by assumption) ?_
        rotate_left
        · (intro w hSw; (try dsimp only at hSw); obtain ⟨s0, s1⟩ := hSw; (try dsimp only [List.getElem_toArray, List.getElem_cons_succ, List.getElem_cons_zero]); go_simp)
          try with_reducible rfl
        try simp only [List.getElem_toArray, List.getElem_cons_succ, List.getElem_cons_zero, Act.put, List.setIfInBounds_toArray, List.set_cons_zero, List.set_cons_succ]
        refine wpAnyH_take (i := 17) (v := ?_) rfl (by decide +kernel) (by decide +kernel) (by decide +kernel) (fun _ _ _ h => h) (Or.inl ⟨by rfl, ?_⟩) (by assumption) ?_
        rotate_left
        · (intro w hSw; (try dsimp only at hSw); obtain ⟨s0, s1⟩ := hSw; (try dsimp only [List.getElem_toArray, List.getElem_cons_succ, List.getElem_cons_zero]); go_simp)
          try with_reducible rfl
        try simp only [List.getElem_toArray, List.getElem_cons_succ, List.getElem_cons_zero, Act.put, List.setIfInBounds_toArray, List.set_cons_zero, List.set_cons_succ]
        refine wpAnyH_take (i := 18) (v := ?_) rfl (by decide +kernel) (by decide +kernel) (by decide +kernel) (fun _ _ _ h => h) (Or.inl ⟨by rfl, ?_⟩) (by assumption) ?_
        rotate_left
        · (intro w hSw; (try dsimp only at hSw); obtain ⟨s0, s1⟩ := hSw; (try dsimp only [List.getElem_toArray, List.getElem_cons_succ, List.getElem_cons_zero]); go_simp)
          try with_reducible rfl
        try simp only [List.getElem_toArray, List.getElem_cons_succ, List.getElem_cons_zero, Act.put, List.setIfInBounds_toArray, List.set_cons_zero, List.set_cons_succ]
        refine wpAnyH_take (i := 19) (v := ?_) rfl (by decide +kernel) (by decide +kernel) (by decide +kernel) (fun _ _ _ h => h) (Or.inl ⟨by rfl, ?_⟩) (by assumption) ?_
        rotate_left
        · (intro w hSw; (try dsimp only at hSw); obtain ⟨s0, s1⟩ := hSw; (try dsimp only [List.getElem_toArray, List.getElem_cons_succ, List.getElem_cons_zero]); go_simp)
          try with_reducible rfl
        try simp only [List.getElem_toArray, List.getElem_cons_succ, List.getElem_cons_zero, Act.put, List.setIfInBounds_toArray, List.set_cons_zero, List.set_cons_succ]
        refine wpAnyH_ready (rs := [20]) (by kernel_rfl) (by simp) ?_
        refine AllReadyH.cons rfl (fun K hK => ?_) AllReadyH.nil
        try dsimp only [List.getElem_toArray, List.getElem_cons_succ, List.getElem_cons_zero]
        go_simp
        refine hK.out _ _ ?_ (fun hHeld2 => ?_)
        · exact ⟨(Ext.alloc _ _).cell hHeld.1, (Ext.alloc _ _).cell hHeld.2⟩
        clear hK K
        try simp only [List.getElem_toArray, List.getElem_cons_succ, List.getElem_cons_zero, Act.put, List.setIfInBounds_toArray, List.set_cons_zero, List.set_cons_succ]
        refine wpAnyH_ready (rs := [21]) (by kernel_rfl) (by simp) ?_
        refine AllReadyH.cons rfl (fun K hK => ?_) AllReadyH.nil
        try dsimp only [List.getElem_toArray, List.getElem_cons_succ, List.getElem_cons_zero]
        go_simp
        refine hK.out _ _ ?_ (fun hHeld3 => ?_)
        · exact ⟨(Ext.alloc _ _).cell hHeld.1, (Ext.alloc _ _).cell hHeld.2⟩
        clear hK K hHeld2
        try simp only [List.getElem_toArray, List.getElem_cons_succ, List.getElem_cons_zero, Act.put, List.setIfInBounds_toArray, List.set_cons_zero, List.set_cons_succ]
        refine wpAnyH_done (by kernel_rfl) ?_ _
        have hPX := (Ext.alloc w5 (.cells #[.slice (some ⟨zi.lb, lo * 4, none⟩) (N - lo) (zi.lc - lo), .slice none 0 0] 58)).trans (Ext.drew _)
        have hPN := (Ext.drew _).heap_ (heap_alloc_new w5 (.cells #[.slice (some ⟨zi.lb, lo * 4, none⟩) (N - lo) (zi.lc - lo), .slice none 0 0] 58))
        rw [← hcn] at hPX hPN ⊢
        generalize (w5.alloc (.cells #[.slice (some ⟨zi.lb, lo * 4, none⟩) cnt (zi.lc - lo), .slice none 0 0] 58)).drew = w6' at *
        have HPB := Lib.hid hPN
        have HC6 := Lib.hid (HC5.out.ext hPX)
        have HB6' := Lib.hid (HB5.out.trans (hPX.below.mono HB5.out.size))
        replace c0 := hPX.cell c0
        replace c1 := hPX.cell c1
        replace x0 := hPX.cell x0
        have p0 : w6'.cell? ⟨w5.heap.size, 0, none⟩ = some (.slice (some ⟨zi.lb, lo * 4, none⟩) cnt (zi.lc - lo)) := cell_of_heap hPN 0
        have p1 : w6'.cell? ⟨w5.heap.size, 1, none⟩ = some (.slice none 0 0) := cell_of_heap hPN 1
        clear hPX hPN HC5 HB5 hHeld hHeld3
        generalize w5.heap.size = pb at *
        have hlc : lo + cnt ≤ N := by omega
        have hcnt8 : cnt ≤ 8 := by omega
        clear hcn hcnt hmnI hmn hhi hhi2 hlt1F hmax h0N hww2
        have hLL := Lib.hid (sl17Least_c (ca := ca) (A := A) HC6.out.cm HC6.out.ok N8 hp lo cnt (zi.lc - lo) (lo * 4) rfl hlc none 0 0)
        have hmk8 := relM_lt (l := l) (c := ci) (lo := lo) (t := cnt) (by omega)
        have HGO := Lib.hid (fun t (ht : t < cnt) (hb : (relM l ci lo cnt).testBit t = true) => show goesL l (ci.lane (lo + t)) = true by rw [relM_bit ht] at hb; simp only [Bool.and_eq_true] at hb; exact hb.1)
        have HOK0 := Lib.hid HC6.out.ok
        generalize hmke : relM l ci lo cnt = mk at *
        generalize leastP l ci (partL lo cnt) = at' at *
        clear hmke
        go_wp2_with fail
        refine (hLL.out).mono ?_
        rintro e w6 ⟨rfl, hx6⟩
        have HSC6 := Lib.hid (HC6.out.ext hx6)
        have HB6 := Lib.hid (HB6'.out.trans (hx6.below.mono HB6'.out.size))
        replace x0 := hx6.cell x0
        replace p0 := hx6.cell p0
        have HPB6 := Lib.hid (hx6.heap_ HPB.out)
        have HX0 := Lib.hid x0
        clear hx6 hLL HC6 HB6' HPB c0 c1 p1 x0
        go_wp2
        go_loopw [16] (fun kv wr => SiRel w w6 N cb l zi ci lo mk cnt kv wr) (fun kv _ => cnt - (intOf kv).toNat)
        case atStart => exact ⟨0, zi, Nat.zero_le _, rfl, HSC6.out, SmG.refl _, StC.refl _ _⟩
        case round =>
          obtain ⟨t, zt, ht, rfl, hCt, hzt, hst⟩ := hrel
          have HBt := Lib.hid (HB6.out.trans hst.bel)
          have HZT := Lib.hid hzt
          have HCt := Lib.hid hCt
          have HSTt := Lib.hid hst
          have hmet := (runIn_ok hp N8 HOK0.out (mk := mk) (lo := lo) (cnt := cnt) (by omega) t ht).2
          rw [HME0.out] at hmet
          have HME := Lib.hid hmet
          have HRL := Lib.hid (show (runIn l ci lo mk t).lane (lo + t) = ci.lane (lo + t) by have h := runIn_lane (l := l) (c := ci) (lo := lo) (mk := mk) t t (Nat.le_refl _); simpa only [Nat.zero_add] using h)
          have HRI := Lib.hid (show runIn l ci lo mk (t + 1) = if mk.testBit t then stepIf l (runIn l ci lo mk t) (lo + t) else runIn l ci lo mk t by simp only [runIn, Nat.zero_add])
          have c0 : wr.cell? ⟨cb, 0, none⟩ = some (.slice (some ⟨zt.lb, 0, none⟩) N zt.lc) := cell_of_heap hCt.blk 0
          have c1 : wr.cell? ⟨cb, 1, none⟩ = some (.slice (some ⟨zt.mb, 0, none⟩) m.length zt.mc) := (cell_of_heap hCt.blk 1).trans (by rw [hmet]; rfl)
          have x0t := (cell_heap_eq (HSTt.out.bel.block xb hxB) (xo + im)).trans HX0.out
          have p0t : wr.cell? ⟨pb, 0, none⟩ = some (.slice (some ⟨zi.lb, lo * 4, none⟩) cnt (zi.lc - lo)) := cell_of_heap (HSTt.out.byt _ _ _ (by decide) (by decide) HPB6.out) 0
          clear hCt hzt hst hmet
          by_cases hlt : t < cnt
          · have htI : (t : Int) < (cnt : Int) := by omega
            have hkn : lo + t < N := by omega
            cases hbt : mk.testBit t with
            | false =>
              rw [hbt] at HRI
              have hbit : (((mk : Int) / 2 ^ t).tmod 2 == 1) = false := by rw [bit_tm]; exact hbt
              go_wp2
              go_roundw
              case rel => exact ⟨t + 1, zt, by omega, by go_num, by rw [HRI.out]; exact HCt.out, HZT.out, HSTt.out⟩
              case measure => simp [intOf]; omega
            | true =>
              rw [hbt] at HRI
              have hbit : (((mk : Int) / 2 ^ t).tmod 2 == 1) = true := by rw [bit_tm]; exact hbt
              have hgo := HGO.out t hlt hbt
              rw [← HRL.out] at hgo
              have HOK := Lib.hid HCt.out.ok
              have HCr := Lib.hid HCt.out.cm
              obtain ⟨e0, e1, e2, e3⟩ := HCt.out.cm.cells hkn
              obtain ⟨hcbs, hcbm, hcbl⟩ := HCt.out.sep
              have hBW := HCt.out.hB
              have HBr := HBt
              have HMLN := HME
              generalize hce : runIn l ci lo mk t = cj at *
              clear hce
              have hwt := (goes_pos hgo).1
              have hps := (goes_pos hgo).2
              have HSI := Lib.hid (show stepIf l cj (lo + t) = stepAt l cj (lo + t) by unfold stepIf; rw [hgo]; rfl)
              rw [hwt] at e3
              have hok5 := stepIf_ok hp N8 HOK.out hkn
              have hww3 : IntKind.i64.wrap ((lo : Int) + (t : Int)) = (lo : Int) + (t : Int) := IntWalk.i64_in _ (by omega)
              have hkI : (lo : Int) + (t : Int) < (N : Int) := by omega
              have hk0 : (0 : Int) ≤ (lo : Int) + (t : Int) := by omega
              have hkT : ((lo : Int) + (t : Int)).toNat = lo + t := by omega
              go_upto_region 14 with fail
              have hXd := Ext.drew wr
              have hCd := HCr.out.ext hXd
              have h4 := ((HOK.out.at_ hkn).2).four
              have hAd := (HA.out.below (HBr.out.trans (hXd.below.mono hBW))).more (Nat.le_trans HBr.out.size hXd.size)
              have hRd : RdI wr.drew wr.drew.heap.size (some ⟨zt.R (lo + t), 0, none⟩) (cj.lane (lo + t)).regs := by
                have h := OR.reads (hCd.regs (lo + t) hkn)
                unfold RdI
                rw [h4]
                exact h
              have hTd : RdI wr.drew wr.drew.heap.size (adr (zt.T (lo + t))) (cj.lane (lo + t)).turns := OR.reads (hCd.turns (lo + t) hkn)
              have hml := HMLN.out
              have HL6 := Lib.hid (l6Step_c A (some ⟨zt.R (lo + t), 0, none⟩) (adr (zt.T (lo + t))) ca (zt.RC (lo + t)) (zt.TC (lo + t)) l (cj.lane (lo + t)) (lo + t) w.heap.size zt.mb m.length zt.mc cj.mem wr.drew hAd hRd hTd (OI.nilc (hCd.turns (lo + t) hkn)) (by have h := hCd.mem; rw [HME.out] at h; exact h) (by exact hBW) ⟨hm1, hm32⟩ ((HOK.out).words) hp ((HOK.out.at_ hkn).2) hwt hps (by omega))
              have HCd := Lib.hid hCd
              clear hCd hAd hRd hTd hXd h4 hml
              unfold lnV at HL6
              simp only [Int.natCast_add] at HL6
              rw [hwt] at HL6
              go_wp2_with fail
              refine wp_region_held_drew (S := fun w' => w'.cell? ⟨cb, 0, none⟩ = some (.slice (some ⟨zt.lb, 0, none⟩) N zt.lc) ∧ w'.cell? ⟨cb, 1, none⟩ = some (.slice (some ⟨zt.mb, 0, none⟩) m.length zt.mc)) (by kernel_rfl) ⟨c0, c1⟩ (fun hHeld => ?_)
              refine wpAnyH_take (i := 0) (v := ?_) rfl (by decide +kernel) (by decide +kernel) (by decide +kernel) (fun _ _ _ h => h) (Or.inl ⟨by rfl, ?_⟩) (by assumption) ?_
              rotate_left
              · (intro w hSw; (try dsimp only at hSw); obtain ⟨s0, s1⟩ := hSw; (try dsimp only [List.getElem_toArray, List.getElem_cons_succ, List.getElem_cons_zero]); go_simp)
                try with_reducible rfl
              try simp only [List.getElem_toArray, List.getElem_cons_succ, List.getElem_cons_zero, Act.put, List.setIfInBounds_toArray, List.set_cons_zero, List.set_cons_succ]
              refine wpAnyH_take (i := 1) (v := ?_) rfl (by decide +kernel) (by decide +kernel) (by decide +kernel) (fun _ _ _ h => h) (Or.inl ⟨by rfl, ?_⟩) (by assumption) ?_
              rotate_left
              · (intro w hSw; (try dsimp only at hSw); obtain ⟨s0, s1⟩ := hSw; (try dsimp only [List.getElem_toArray, List.getElem_cons_succ, List.getElem_cons_zero]); go_simp)
                try with_reducible rfl
              try simp only [List.getElem_toArray, List.getElem_cons_succ, List.getElem_cons_zero, Act.put, List.setIfInBounds_toArray, List.set_cons_zero, List.set_cons_succ]
              refine wpAnyH_take (i := 2) (v := ?_) rfl (by decide +kernel) (by decide +kernel) (by decide +kernel) (fun _ _ _ h => h) (Or.inl ⟨by rfl, ?_⟩) (by assumption) ?_
              rotate_left
              · (intro w hSw; (try dsimp only at hSw); obtain ⟨s0, s1⟩ := hSw; (try dsimp only [List.getElem_toArray, List.getElem_cons_succ, List.getElem_cons_zero]); go_simp)
                try with_reducible rfl
              try simp only [List.getElem_toArray, List.getElem_cons_succ, List.getElem_cons_zero, Act.put, List.setIfInBounds_toArray, List.set_cons_zero, List.set_cons_succ]
              refine wpAnyH_take (i := 3) (v := ?_) rfl (by decide +kernel) (by decide +kernel) (by decide +kernel) (fun _ _ _ h => h) (Or.inl ⟨by rfl, ?_⟩) (by assumption) ?_
              rotate_left
              · (intro w hSw; (try dsimp only at hSw); obtain ⟨s0, s1⟩ := hSw; (try dsimp only [List.getElem_toArray, List.getElem_cons_succ, List.getElem_cons_zero]); go_simp)
                try with_reducible rfl
              try simp only [List.getElem_toArray, List.getElem_cons_succ, List.getElem_cons_zero, Act.put, List.setIfInBounds_toArray, List.set_cons_zero, List.set_cons_succ]
              refine wpAnyH_take (i := 4) (v := ?_) rfl (by decide +kernel) (by decide +kernel) (by decide +kernel) (fun _ _ _ h => h) (Or.inl ⟨by rfl, ?_⟩) (by assumption) ?_
              rotate_left
              · (intro w hSw; (try dsimp only at hSw); obtain ⟨s0, s1⟩ := hSw; (try dsimp only [List.getElem_toArray, List.getElem_cons_succ, List.getElem_cons_zero]); go_simp)
                try with_reducible rfl
              try simp only [List.getElem_toArray, List.getElem_cons_succ, List.getElem_cons_zero, Act.put, List.setIfInBounds_toArray, List.set_cons_zero, List.set_cons_succ]
              refine wpAnyH_take (i := 5) (v := ?_) rfl (by decide +kernel) (by decide +kernel) (by decide +kernel) (fun _ _ _ h => h) (Or.inl ⟨by rfl, ?_⟩) (by assumption) ?_
              rotate_left
              · (intro w hSw; (try dsimp only at hSw); obtain ⟨s0, s1⟩ := hSw; (try dsimp only [List.getElem_toArray, List.getElem_cons_succ, List.getElem_cons_zero]); go_simp)
                try with_reducible rfl
              try simp only [List.getElem_toArray, List.getElem_cons_succ, List.getElem_cons_zero, Act.put, List.setIfInBounds_toArray, List.set_cons_zero, List.set_cons_succ]
              refine wpAnyH_take (i := 6) (v := ?_) rfl (by decide +kernel) (by decide +kernel) (by decide +kernel) (fun _ _ _ h => h) (Or.inl ⟨by rfl, ?_⟩) (by assumption) ?_
              rotate_left
              · (intro w hSw; (try dsimp only at hSw); obtain ⟨s0, s1⟩ := hSw; (try dsimp only [List.getElem_toArray, List.getElem_cons_succ, List.getElem_cons_zero]); go_simp)
                try with_reducible rfl
              try simp only [List.getElem_toArray, List.getElem_cons_succ, List.getElem_cons_zero, Act.put, List.setIfInBounds_toArray, List.set_cons_zero, List.set_cons_succ]
              refine wpAnyH_take (i := 8) (v := ?_) rfl (by decide +kernel) (by decide +kernel) (by decide +kernel) (fun _ _ _ h => h) (Or.inl ⟨by rfl, ?_⟩) (by assumption) ?_
              rotate_left
              · (intro w hSw; (try dsimp only at hSw); obtain ⟨s0, s1⟩ := hSw; (try dsimp only [List.getElem_toArray, List.getElem_cons_succ, List.getElem_cons_zero]); go_simp)
                try with_reducible rfl
              try simp only [List.getElem_toArray, List.getElem_cons_succ, List.getElem_cons_zero, Act.put, List.setIfInBounds_toArray, List.set_cons_zero, List.set_cons_succ]
              refine wpAnyH_take (i := 9) (v := ?_) rfl (by decide +kernel) (by decide +kernel) (by decide +kernel) (fun _ _ _ h => h) (Or.inl ⟨by rfl, ?_⟩) (by assumption) ?_
              rotate_left
              · (intro w hSw; (try dsimp only at hSw); obtain ⟨s0, s1⟩ := hSw; (try dsimp only [List.getElem_toArray, List.getElem_cons_succ, List.getElem_cons_zero]); go_simp)
                try with_reducible rfl
              try simp only [List.getElem_toArray, List.getElem_cons_succ, List.getElem_cons_zero, Act.put, List.setIfInBounds_toArray, List.set_cons_zero, List.set_cons_succ]
              refine wpAnyH_take (i := 10) (v := ?_) rfl (by decide +kernel) (by decide +kernel) (by decide +kernel) (fun _ _ _ h => h) (Or.inl ⟨by rfl, ?_⟩) (by assumption) ?_
              rotate_left
              · (intro w hSw; (try dsimp only at hSw); obtain ⟨s0, s1⟩ := hSw; (try dsimp only [List.getElem_toArray, List.getElem_cons_succ, List.getElem_cons_zero]); go_simp)
                try with_reducible rfl
              try simp only [List.getElem_toArray, List.getElem_cons_succ, List.getElem_cons_zero, Act.put, List.setIfInBounds_toArray, List.set_cons_zero, List.set_cons_succ]
              refine wpAnyH_take (i := 11) (v := ?_) rfl (by decide +kernel) (by decide +kernel) (by decide +kernel) (fun _ _ _ h => h) (Or.inl ⟨by rfl, ?_⟩) (by assumption) ?_
              rotate_left
              · (intro w hSw; (try dsimp only at hSw); obtain ⟨s0, s1⟩ := hSw; (try dsimp only [List.getElem_toArray, List.getElem_cons_succ, List.getElem_cons_zero]); go_simp)
                try with_reducible rfl
              try simp only [List.getElem_toArray, List.getElem_cons_succ, List.getElem_cons_zero, Act.put, List.setIfInBounds_toArray, List.set_cons_zero, List.set_cons_succ]
              refine wpAnyH_ready (rs := [7]) (by kernel_rfl) (by simp) ?_
              refine AllReadyH.cons rfl (fun K hK => ?_) AllReadyH.nil
              try dsimp only [List.getElem_toArray, List.getElem_cons_succ, List.getElem_cons_zero]
              go_simp
              refine hK.out _ _ ?_ (fun hHeld2 => ?_)
              · exact hHeld
              clear hK K
              try simp only [List.getElem_toArray, List.getElem_cons_succ, List.getElem_cons_zero, Act.put, List.setIfInBounds_toArray, List.set_cons_zero, List.set_cons_succ]
              refine wpAnyH_ready (rs := [12]) (by kernel_rfl) (by simp) ?_
              refine AllReadyH.cons rfl (fun K hK => ?_) AllReadyH.nil
              try dsimp only [List.getElem_toArray, List.getElem_cons_succ, List.getElem_cons_zero]
              go_simp
              go_at_call 40
              refine (HL6.out).mono ?_
              rintro e w4 ⟨r, rc, t', tc, rfl, hL4, hM4, hg4⟩
              unfold lnV
              have hmb4 := (OR.base_le HCd.out.mem)
              have k0 := (cell_heap_eq (hg4.block cb (by exact hcbs) (fun e => hcbm (by injection e with e; exact e.symm))) 0).trans c0
              have k1 := (cell_heap_eq (hg4.block cb (by exact hcbs) (fun e => hcbm (by injection e with e; exact e.symm))) 1).trans c1
              try dsimp only
              refine hK.out _ _ ?_ (fun hHeld3 => ?_)
              · exact ⟨k0, k1⟩
              clear hK K hHeld2
              try simp only [List.getElem_toArray, List.getElem_cons_succ, List.getElem_cons_zero, Act.put, List.setIfInBounds_toArray, List.set_cons_zero, List.set_cons_succ]
              refine wpAnyH_ready (rs := [13]) (by kernel_rfl) (by simp) ?_
              refine AllReadyH.cons rfl (fun K hK => ?_) AllReadyH.nil
              try dsimp only [List.getElem_toArray, List.getElem_cons_succ, List.getElem_cons_zero]
              go_simp
              refine hK.out _ _ ?_ (fun hHeld4 => ?_)
              · exact hHeld3
              clear hK K hHeld3
              try simp only [List.getElem_toArray, List.getElem_cons_succ, List.getElem_cons_zero, Act.put, List.setIfInBounds_toArray, List.set_cons_zero, List.set_cons_succ]
              refine wpAnyH_ready (rs := [14]) (by kernel_rfl) (by simp) ?_
              refine AllReadyH.cons rfl (fun K hK => ?_) AllReadyH.nil
              have hnew := CM.lane_new HCd.out (by exact hBW) hkn HOK.out.len hL4 (by rw [HME.out]; exact hM4) ((simp1_len _ _ _ _).2) hg4
              have hth : w4.there zt.lb ((lo + t) * 4) 4 := there4 HCd.out hg4 (by exact hBW) hkn
              refine (if_pos ?hwS).mpr ?_
              case hwS => rfl
              refine wp_store_mid _ _ _ rfl zt.lb ((lo + t) * 4) _ rfl rfl hth (by kernel_rfl) (by simp [Value.oneCell']) ?_
              refine hK.out _ _ ?_ (fun hHeld5 => ?_)
              · exact ⟨(World.cell?_setCells_out _ _ _ _ _ (fun e _ => absurd e hcbl)).trans hHeld4.1, (World.cell?_setCells_out _ _ _ _ _ (fun e _ => absurd e hcbl)).trans hHeld4.2⟩
              clear hK K hHeld4 hHeld
              refine wpAnyH_done (by kernel_rfl) ?_ _
              have HC5 := Lib.hid (show CM (fun _ => True) _ w.heap.size N _ (stepAt l cj (lo + t)) from hnew.1)
              have HST5 := Lib.hid hnew.2
              clear hnew hth hL4 hM4 hg4 k0 k1 hmb4
              rw [HSI.out] at hok5
              have HOK5 := Lib.hid hok5.1
              have HSC5 := Lib.hid ((HCt.out.ext (Ext.drew wr)).next HC5.out ⟨rfl, rfl, rfl, rfl⟩ HST5.out hok5.1 hok5.2)
              have HST6 := Lib.hid ((HSTt.out.trans (StC.of_ext (Ext.drew wr) hBW)).trans HST5.out)
              simp only [if_true] at HRI
              rw [HSI.out] at HRI
              clear hok5 hHeld5 e0 e1 e2 e3 HL6 x0t p0t
              generalize w4.setCells _ _ _ = w5 at *
              go_wp2
              go_roundw
              case rel => exact ⟨t + 1, zt.put (lo + t) r rc t' tc, by omega, by go_num, by rw [HRI.out]; exact HSC5.out, HZT.out, HST6.out⟩
              case measure => simp [intOf]; omega
          · obtain rfl : t = cnt := by omega
            have hnI : ¬ ((t : Int) < (t : Int)) := by omega
            have hLF := Lib.hid (sl7Free_c (ca := ca) (A := A) HCt.out.cm HCt.out.ok N8 HCt.out.hB)
            unfold cwV at hLF
            rw [HME.out] at hLF
            go_wp2_with fail
            refine (hLF.out).mono ?_
            rintro e w7 ⟨rfl, hC7, hst7⟩
            have HS7 := Lib.hid (HCt.out.next hC7 (SmG.refl _) hst7 (HCt.out.ok.passC).1 (by rw [(HCt.out.ok.passC).2.2]))
            have HB7 := Lib.hid (HBt.out.trans hst7.bel)
            clear hC7 hst7
            go_wp2
            go_roundg (T - (i + 1))
            case measure => omega
            case rel => exact ⟨i + 1, zt, by omega, by rw [HNX.out]; go_num, by rw [HGD.out]; exact HS7.out, HB7.out⟩
      · have hcn : cnt = S := by omega
        have hmnI : (lo : Int) + (S : Int) < (N : Int) := by omega
        have hlt1F : ((lo : Int) + (S : Int) < (N : Int)) = True := eq_true hmnI
        have hww : IntKind.i64.wrap (lo : Int) = (lo : Int) := IntWalk.i64_in _ (by omega)
        have hww2 : IntKind.i64.wrap ((lo : Int) + (S : Int)) = (lo : Int) + (S : Int) := IntWalk.i64_in _ (by omega)
        have hmax : max ((lo : Int) + (S : Int)) 0 = (lo : Int) + (S : Int) := by omega
        have h0N : (0 : Int) ≤ (lo : Int) + (S : Int) := by omega
        have hhi : (lo : Int) ≤ (lo : Int) + (S : Int) := by omega
        have hhi2 : (lo : Int) + (S : Int) ≤ (zi.lc : Int) := by omega
        have hhi3 : lo + S ≤ zi.lc := by omega
        have hkS : ((lo : Int) + (S : Int)).toNat = lo + S := by omega
        have hxbl := World.block_lt_of_cell? w5 _ x0
        have hcbl0 := World.block_lt_of_cell? w5 _ c0
        simp only at hxbl hcbl0
        go_wp2_with fail
        refine wp_region_held_drew (S := fun w' => w'.cell? ⟨cb, 0, none⟩ = some (.slice (some ⟨zi.lb, 0, none⟩) N zi.lc) ∧ w'.cell? ⟨xb, xo + im, none⟩ = some (.int .i64 g)) (by kernel_rfl) ⟨c0, x0⟩ (fun hHeld => ?_)
        refine wpAnyH_take (i := 0) (v := ?_) rfl (by decide +kernel) (by decide +kernel) (by decide +kernel) (fun _ _ _ h => h) (Or.inl ⟨by rfl, ?_⟩) (by assumption) ?_
        rotate_left
        · (intro w hSw; (try dsimp only at hSw); obtain ⟨s0, s1⟩ := hSw; (try dsimp only [List.getElem_toArray, List.getElem_cons_succ, List.getElem_cons_zero]); go_simp)
          try with_reducible rfl
        try simp only [List.getElem_toArray, List.getElem_cons_succ, List.getElem_cons_zero, Act.put, List.setIfInBounds_toArray, List.set_cons_zero, List.set_cons_succ]
        refine wpAnyH_take (i := 1) (v := ?_) rfl (by decide +kernel) (by decide +kernel) (by decide +kernel) (fun _ _ _ h => h) (Or.inl ⟨by rfl, ?_⟩) (by assumption) ?_
        rotate_left
        · (intro w hSw; (try dsimp only at hSw); obtain ⟨s0, s1⟩ := hSw; (try dsimp only [List.getElem_toArray, List.getElem_cons_succ, List.getElem_cons_zero]); go_simp)
          try with_reducible rfl
        try simp only [List.getElem_toArray, List.getElem_cons_succ, List.getElem_cons_zero, Act.put, List.setIfInBounds_toArray, List.set_cons_zero, List.set_cons_succ]
        refine wpAnyH_take (i := 2) (v := ?_) rfl (by decide +kernel) (by decide +kernel) (by decide +kernel) (fun _ _ _ h => h) (Or.inl ⟨by rfl, ?_⟩) (by assumption) ?_
        rotate_left
        · (intro w hSw; (try dsimp only at hSw); obtain ⟨s0, s1⟩ := hSw; (try dsimp only [List.getElem_toArray, List.getElem_cons_succ, List.getElem_cons_zero]); go_simp)
          try with_reducible rfl
        try simp only [List.getElem_toArray, List.getElem_cons_succ, List.getElem_cons_zero, Act.put, List.setIfInBounds_toArray, List.set_cons_zero, List.set_cons_succ]
        refine wpAnyH_take (i := 3) (v := ?_) rfl (by decide +kernel) (by decide +kernel) (by decide +kernel) (fun _ _ _ h => h) (Or.inl ⟨by rfl, ?_⟩) (by assumption) ?_
        rotate_left
        · (intro w hSw; (try dsimp only at hSw); obtain ⟨s0, s1⟩ := hSw; (try dsimp only [List.getElem_toArray, List.getElem_cons_succ, List.getElem_cons_zero]); go_simp)
          try with_reducible rfl
        try simp only [List.getElem_toArray, List.getElem_cons_succ, List.getElem_cons_zero, Act.put, List.setIfInBounds_toArray, List.set_cons_zero, List.set_cons_succ]
        refine wpAnyH_take (i := 4) (v := ?_) rfl (by decide +kernel) (by decide +kernel) (by decide +kernel) (fun _ _ _ h => h) (Or.inl ⟨by rfl, ?_⟩) (by assumption) ?_
        rotate_left
        · (intro w hSw; (try dsimp only at hSw); obtain ⟨s0, s1⟩ := hSw; (try dsimp only [List.getElem_toArray, List.getElem_cons_succ, List.getElem_cons_zero]); go_simp)
          try with_reducible rfl
        try simp only [List.getElem_toArray, List.getElem_cons_succ, List.getElem_cons_zero, Act.put, List.setIfInBounds_toArray, List.set_cons_zero, List.set_cons_succ]
        refine wpAnyH_take (i := 5) (v := ?_) rfl (by decide +kernel) (by decide +kernel) (by decide +kernel) (fun _ _ _ h => h) (Or.inl ⟨by rfl, ?_⟩) (by assumption) ?_
        rotate_left
        · (intro w hSw; (try dsimp only at hSw); obtain ⟨s0, s1⟩ := hSw; (try dsimp only [List.getElem_toArray, List.getElem_cons_succ, List.getElem_cons_zero]); go_simp)
          try with_reducible rfl
        try simp only [List.getElem_toArray, List.getElem_cons_succ, List.getElem_cons_zero, Act.put, List.setIfInBounds_toArray, List.set_cons_zero, List.set_cons_succ]
        refine wpAnyH_take (i := 6) (v := ?_) rfl (by decide +kernel) (by decide +kernel) (by decide +kernel) (fun _ _ _ h => h) (Or.inl ⟨by rfl, ?_⟩) (by assumption) ?_
        rotate_left
        · (intro w hSw; (try dsimp only at hSw); obtain ⟨s0, s1⟩ := hSw; (try dsimp only [List.getElem_toArray, List.getElem_cons_succ, List.getElem_cons_zero]); go_simp)
          try with_reducible rfl
        try simp only [List.getElem_toArray, List.getElem_cons_succ, List.getElem_cons_zero, Act.put, List.setIfInBounds_toArray, List.set_cons_zero, List.set_cons_succ]
        refine wpAnyH_take (i := 7) (v := ?_) rfl (by decide +kernel) (by decide +kernel) (by decide +kernel) (fun _ _ _ h => h) (Or.inl ⟨by rfl, ?_⟩) (by assumption) ?_
        rotate_left
        · (intro w hSw; (try dsimp only at hSw); obtain ⟨s0, s1⟩ := hSw; (try dsimp only [List.getElem_toArray, List.getElem_cons_succ, List.getElem_cons_zero]); go_simp)
          try with_reducible rfl
        try simp only [List.getElem_toArray, List.getElem_cons_succ, List.getElem_cons_zero, Act.put, List.setIfInBounds_toArray, List.set_cons_zero, List.set_cons_succ]
        refine wpAnyH_take (i := 8) (v := ?_) rfl (by decide +kernel) (by decide +kernel) (by decide +kernel) (fun _ _ _ h => h) (Or.inl ⟨by rfl, ?_⟩) (by assumption) ?_
        rotate_left
        · (intro w hSw; (try dsimp only at hSw); obtain ⟨s0, s1⟩ := hSw; (try dsimp only [List.getElem_toArray, List.getElem_cons_succ, List.getElem_cons_zero]); go_simp)
          try with_reducible rfl
        try simp only [List.getElem_toArray, List.getElem_cons_succ, List.getElem_cons_zero, Act.put, List.setIfInBounds_toArray, List.set_cons_zero, List.set_cons_succ]
        refine wpAnyH_take (i := 9) (v := ?_) rfl (by decide +kernel) (by decide +kernel) (by decide +kernel) (fun _ _ _ h => h) (Or.inl ⟨by rfl, ?_⟩) (by assumption) ?_
        rotate_left
        · (intro w hSw; (try dsimp only at hSw); obtain ⟨s0, s1⟩ := hSw; (try dsimp only [List.getElem_toArray, List.getElem_cons_succ, List.getElem_cons_zero]); go_simp)
          try with_reducible rfl
        try simp only [List.getElem_toArray, List.getElem_cons_succ, List.getElem_cons_zero, Act.put, List.setIfInBounds_toArray, List.set_cons_zero, List.set_cons_succ]
        refine wpAnyH_take (i := 10) (v := ?_) rfl (by decide +kernel) (by decide +kernel) (by decide +kernel) (fun _ _ _ h => h) (Or.inl ⟨by rfl, ?_⟩) (by assumption) ?_
        rotate_left
        · (intro w hSw; (try dsimp only at hSw); obtain ⟨s0, s1⟩ := hSw; (try dsimp only [List.getElem_toArray, List.getElem_cons_succ, List.getElem_cons_zero]); go_simp)
          try with_reducible rfl
        try simp only [List.getElem_toArray, List.getElem_cons_succ, List.getElem_cons_zero, Act.put, List.setIfInBounds_toArray, List.set_cons_zero, List.set_cons_succ]
        refine wpAnyH_take (i := 11) (v := ?_) rfl (by decide +kernel) (by decide +kernel) (by decide +kernel) (fun _ _ _ h => h) (Or.inl ⟨by rfl, ?_⟩) (by assumption) ?_
        rotate_left
        · (intro w hSw; (try dsimp only at hSw); obtain ⟨s0, s1⟩ := hSw; (try dsimp only [List.getElem_toArray, List.getElem_cons_succ, List.getElem_cons_zero]); go_simp)
          try with_reducible rfl
        try simp only [List.getElem_toArray, List.getElem_cons_succ, List.getElem_cons_zero, Act.put, List.setIfInBounds_toArray, List.set_cons_zero, List.set_cons_succ]
        refine wpAnyH_take (i := 12) (v := ?_) rfl (by decide +kernel) (by decide +kernel) (by decide +kernel) (fun _ _ _ h => h) (Or.inl ⟨by rfl, ?_⟩) (by assumption) ?_
        rotate_left
        · (intro w hSw; (try dsimp only at hSw); obtain ⟨s0, s1⟩ := hSw; (try dsimp only [List.getElem_toArray, List.getElem_cons_succ, List.getElem_cons_zero]); go_simp)
          try with_reducible rfl
        try simp only [List.getElem_toArray, List.getElem_cons_succ, List.getElem_cons_zero, Act.put, List.setIfInBounds_toArray, List.set_cons_zero, List.set_cons_succ]
        refine wpAnyH_take (i := 13) (v := ?_) rfl (by decide +kernel) (by decide +kernel) (by decide +kernel) (fun _ _ _ h => h) (Or.inl ⟨by rfl, ?_⟩) (by assumption) ?_
        rotate_left
        · (intro w hSw; (try dsimp only at hSw); obtain ⟨s0, s1⟩ := hSw; (try dsimp only [List.getElem_toArray, List.getElem_cons_succ, List.getElem_cons_zero]); go_simp)
          try with_reducible rfl
        try simp only [List.getElem_toArray, List.getElem_cons_succ, List.getElem_cons_zero, Act.put, List.setIfInBounds_toArray, List.set_cons_zero, List.set_cons_succ]
        refine wpAnyH_take (i := 14) (v := ?_) rfl (by decide +kernel) (by decide +kernel) (by decide +kernel) (fun _ _ _ h => h) (Or.inl ⟨by rfl, ?_⟩) (by assumption) ?_
        rotate_left
        · (intro w hSw; (try dsimp only at hSw); obtain ⟨s0, s1⟩ := hSw; (try dsimp only [List.getElem_toArray, List.getElem_cons_succ, List.getElem_cons_zero]); go_simp)
          try with_reducible rfl
        try simp only [List.getElem_toArray, List.getElem_cons_succ, List.getElem_cons_zero, Act.put, List.setIfInBounds_toArray, List.set_cons_zero, List.set_cons_succ]
        refine wpAnyH_take (i := 15) (v := ?_) rfl (by decide +kernel) (by decide +kernel) (by decide +kernel) (fun _ _ _ h => h) (Or.inl ⟨by rfl, ?_⟩) (by assumption) ?_
        rotate_left
        · (intro w hSw; (try dsimp only at hSw); obtain ⟨s0, s1⟩ := hSw; (try dsimp only [List.getElem_toArray, List.getElem_cons_succ, List.getElem_cons_zero]); go_simp)
          try with_reducible rfl
        try simp only [List.getElem_toArray, List.getElem_cons_succ, List.getElem_cons_zero, Act.put, List.setIfInBounds_toArray, List.set_cons_zero, List.set_cons_succ]
        refine wpAnyH_take (i := 16) (v := ?_) rfl (by decide +kernel) (by decide +kernel) (by decide +kernel) (fun _ _ _ h => h) (Or.inl ⟨by rfl, ?_⟩) (by assumption) ?_
        rotate_left
        · (intro w hSw; (try dsimp only at hSw); obtain ⟨s0, s1⟩ := hSw; (try dsimp only [List.getElem_toArray, List.getElem_cons_succ, List.getElem_cons_zero]); go_simp)
          try with_reducible rfl
        try simp only [List.getElem_toArray, List.getElem_cons_succ, List.getElem_cons_zero, Act.put, List.setIfInBounds_toArray, List.set_cons_zero, List.set_cons_succ]
        refine wpAnyH_take (i := 17) (v := ?_) rfl (by decide +kernel) (by decide +kernel) (by decide +kernel) (fun _ _ _ h => h) (Or.inl ⟨by rfl, ?_⟩) (by assumption) ?_
        rotate_left
        · (intro w hSw; (try dsimp only at hSw); obtain ⟨s0, s1⟩ := hSw; (try dsimp only [List.getElem_toArray, List.getElem_cons_succ, List.getElem_cons_zero]); go_simp)
          try with_reducible rfl
        try simp only [List.getElem_toArray, List.getElem_cons_succ, List.getElem_cons_zero, Act.put, List.setIfInBounds_toArray, List.set_cons_zero, List.set_cons_succ]
        refine wpAnyH_take (i := 18) (v := ?_) rfl (by decide +kernel) (by decide +kernel) (by decide +kernel) (fun _ _ _ h => h) (Or.inl ⟨by rfl, ?_⟩) (by assumption) ?_
        rotate_left
        · (intro w hSw; (try dsimp only at hSw); obtain ⟨s0, s1⟩ := hSw; (try dsimp only [List.getElem_toArray, List.getElem_cons_succ, List.getElem_cons_zero]); go_simp)
          try with_reducible rfl
        try simp only [List.getElem_toArray, List.getElem_cons_succ, List.getElem_cons_zero, Act.put, List.setIfInBounds_toArray, List.set_cons_zero, List.set_cons_succ]
        refine wpAnyH_take (i := 19) (v := ?_) rfl (by decide +kernel) (by decide +kernel) (by decide +kernel) (fun _ _ _ h => h) (Or.inl ⟨by rfl, ?_⟩) (by assumption) ?_
        rotate_left
        · (intro w hSw; (try dsimp only at hSw); obtain ⟨s0, s1⟩ := hSw; (try dsimp only [List.getElem_toArray, List.getElem_cons_succ, List.getElem_cons_zero]); go_simp)
          try with_reducible rfl
        try simp only [List.getElem_toArray, List.getElem_cons_succ, List.getElem_cons_zero, Act.put, List.setIfInBounds_toArray, List.set_cons_zero, List.set_cons_succ]
        refine wpAnyH_ready (rs := [20]) (by kernel_rfl) (by simp) ?_
        refine AllReadyH.cons rfl (fun K hK => ?_) AllReadyH.nil
        try dsimp only [List.getElem_toArray, List.getElem_cons_succ, List.getElem_cons_zero]
        go_simp
        refine hK.out _ _ ?_ (fun hHeld2 => ?_)
        · exact ⟨(Ext.alloc _ _).cell hHeld.1, (Ext.alloc _ _).cell hHeld.2⟩
        clear hK K
        try simp only [List.getElem_toArray, List.getElem_cons_succ, List.getElem_cons_zero, Act.put, List.setIfInBounds_toArray, List.set_cons_zero, List.set_cons_succ]
        refine wpAnyH_ready (rs := [21]) (by kernel_rfl) (by simp) ?_
        refine AllReadyH.cons rfl (fun K hK => ?_) AllReadyH.nil
        try dsimp only [List.getElem_toArray, List.getElem_cons_succ, List.getElem_cons_zero]
        go_simp
        refine hK.out _ _ ?_ (fun hHeld3 => ?_)
        · exact ⟨(Ext.alloc _ _).cell hHeld.1, (Ext.alloc _ _).cell hHeld.2⟩
        clear hK K hHeld2
        try simp only [List.getElem_toArray, List.getElem_cons_succ, List.getElem_cons_zero, Act.put, List.setIfInBounds_toArray, List.set_cons_zero, List.set_cons_succ]
        refine wpAnyH_done (by kernel_rfl) ?_ _
        replace hcn := hcn.symm
        subst hcn
        have hPX := (Ext.alloc w5 (.cells #[.slice (some ⟨zi.lb, lo * 4, none⟩) (S) (zi.lc - lo), .slice none 0 0] 58)).trans (Ext.drew _)
        have hPN := (Ext.drew _).heap_ (heap_alloc_new w5 (.cells #[.slice (some ⟨zi.lb, lo * 4, none⟩) (S) (zi.lc - lo), .slice none 0 0] 58))
        generalize (w5.alloc (.cells #[.slice (some ⟨zi.lb, lo * 4, none⟩) S (zi.lc - lo), .slice none 0 0] 58)).drew = w6' at *
        have HPB := Lib.hid hPN
        have HC6 := Lib.hid (HC5.out.ext hPX)
        have HB6' := Lib.hid (HB5.out.trans (hPX.below.mono HB5.out.size))
        replace c0 := hPX.cell c0
        replace c1 := hPX.cell c1
        replace x0 := hPX.cell x0
        have p0 : w6'.cell? ⟨w5.heap.size, 0, none⟩ = some (.slice (some ⟨zi.lb, lo * 4, none⟩) S (zi.lc - lo)) := cell_of_heap hPN 0
        have p1 : w6'.cell? ⟨w5.heap.size, 1, none⟩ = some (.slice none 0 0) := cell_of_heap hPN 1
        clear hPX hPN HC5 HB5 hHeld hHeld3
        generalize w5.heap.size = pb at *
        have hlc : lo + S ≤ N := by omega
        have hcnt8 : S ≤ 8 := by omega
        clear hkS hcnt hmnI hmn hhi hhi2 hlt1F hmax h0N hww2
        have hLL := Lib.hid (sl17Least_c (ca := ca) (A := A) HC6.out.cm HC6.out.ok N8 hp lo S (zi.lc - lo) (lo * 4) rfl hlc none 0 0)
        have hmk8 := relM_lt (l := l) (c := ci) (lo := lo) (t := S) (by omega)
        have HGO := Lib.hid (fun t (ht : t < S) (hb : (relM l ci lo S).testBit t = true) => show goesL l (ci.lane (lo + t)) = true by rw [relM_bit ht] at hb; simp only [Bool.and_eq_true] at hb; exact hb.1)
        have HOK0 := Lib.hid HC6.out.ok
        generalize hmke : relM l ci lo S = mk at *
        generalize leastP l ci (partL lo S) = at' at *
        clear hmke
        go_wp2_with fail
        refine (hLL.out).mono ?_
        rintro e w6 ⟨rfl, hx6⟩
        have HSC6 := Lib.hid (HC6.out.ext hx6)
        have HB6 := Lib.hid (HB6'.out.trans (hx6.below.mono HB6'.out.size))
        replace x0 := hx6.cell x0
        replace p0 := hx6.cell p0
        have HPB6 := Lib.hid (hx6.heap_ HPB.out)
        have HX0 := Lib.hid x0
        clear hx6 hLL HC6 HB6' HPB c0 c1 p1 x0
        go_wp2
        go_loopw [16] (fun kv wr => SiRel w w6 N cb l zi ci lo mk S kv wr) (fun kv _ => S - (intOf kv).toNat)
        case atStart => exact ⟨0, zi, Nat.zero_le _, rfl, HSC6.out, SmG.refl _, StC.refl _ _⟩
        case round =>
          obtain ⟨t, zt, ht, rfl, hCt, hzt, hst⟩ := hrel
          have HBt := Lib.hid (HB6.out.trans hst.bel)
          have HZT := Lib.hid hzt
          have HCt := Lib.hid hCt
          have HSTt := Lib.hid hst
          have hmet := (runIn_ok hp N8 HOK0.out (mk := mk) (lo := lo) (cnt := S) (by omega) t ht).2
          rw [HME0.out] at hmet
          have HME := Lib.hid hmet
          have HRL := Lib.hid (show (runIn l ci lo mk t).lane (lo + t) = ci.lane (lo + t) by have h := runIn_lane (l := l) (c := ci) (lo := lo) (mk := mk) t t (Nat.le_refl _); simpa only [Nat.zero_add] using h)
          have HRI := Lib.hid (show runIn l ci lo mk (t + 1) = if mk.testBit t then stepIf l (runIn l ci lo mk t) (lo + t) else runIn l ci lo mk t by simp only [runIn, Nat.zero_add])
          have c0 : wr.cell? ⟨cb, 0, none⟩ = some (.slice (some ⟨zt.lb, 0, none⟩) N zt.lc) := cell_of_heap hCt.blk 0
          have c1 : wr.cell? ⟨cb, 1, none⟩ = some (.slice (some ⟨zt.mb, 0, none⟩) m.length zt.mc) := (cell_of_heap hCt.blk 1).trans (by rw [hmet]; rfl)
          have x0t := (cell_heap_eq (HSTt.out.bel.block xb hxB) (xo + im)).trans HX0.out
          have p0t : wr.cell? ⟨pb, 0, none⟩ = some (.slice (some ⟨zi.lb, lo * 4, none⟩) S (zi.lc - lo)) := cell_of_heap (HSTt.out.byt _ _ _ (by decide) (by decide) HPB6.out) 0
          clear hCt hzt hst hmet
          by_cases hlt : t < S
          · have htI : (t : Int) < (S : Int) := by omega
            have hkn : lo + t < N := by omega
            cases hbt : mk.testBit t with
            | false =>
              rw [hbt] at HRI
              have hbit : (((mk : Int) / 2 ^ t).tmod 2 == 1) = false := by rw [bit_tm]; exact hbt
              go_wp2
              go_roundw
              case rel => exact ⟨t + 1, zt, by omega, by go_num, by rw [HRI.out]; exact HCt.out, HZT.out, HSTt.out⟩
              case measure => simp [intOf]; omega
            | true =>
              rw [hbt] at HRI
              have hbit : (((mk : Int) / 2 ^ t).tmod 2 == 1) = true := by rw [bit_tm]; exact hbt
              have hgo := HGO.out t hlt hbt
              rw [← HRL.out] at hgo
              have HOK := Lib.hid HCt.out.ok
              have HCr := Lib.hid HCt.out.cm
              obtain ⟨e0, e1, e2, e3⟩ := HCt.out.cm.cells hkn
              obtain ⟨hcbs, hcbm, hcbl⟩ := HCt.out.sep
              have hBW := HCt.out.hB
              have HBr := HBt
              have HMLN := HME
              generalize hce : runIn l ci lo mk t = cj at *
              clear hce
              have hwt := (goes_pos hgo).1
              have hps := (goes_pos hgo).2
              have HSI := Lib.hid (show stepIf l cj (lo + t) = stepAt l cj (lo + t) by unfold stepIf; rw [hgo]; rfl)
              rw [hwt] at e3
              have hok5 := stepIf_ok hp N8 HOK.out hkn
              have hww3 : IntKind.i64.wrap ((lo : Int) + (t : Int)) = (lo : Int) + (t : Int) := IntWalk.i64_in _ (by omega)
              have hkI : (lo : Int) + (t : Int) < (N : Int) := by omega
              have hk0 : (0 : Int) ≤ (lo : Int) + (t : Int) := by omega
              have hkT : ((lo : Int) + (t : Int)).toNat = lo + t := by omega
              go_upto_region 14 with fail
              have hXd := Ext.drew wr
              have hCd := HCr.out.ext hXd
              have h4 := ((HOK.out.at_ hkn).2).four
              have hAd := (HA.out.below (HBr.out.trans (hXd.below.mono hBW))).more (Nat.le_trans HBr.out.size hXd.size)
              have hRd : RdI wr.drew wr.drew.heap.size (some ⟨zt.R (lo + t), 0, none⟩) (cj.lane (lo + t)).regs := by
                have h := OR.reads (hCd.regs (lo + t) hkn)
                unfold RdI
                rw [h4]
                exact h
              have hTd : RdI wr.drew wr.drew.heap.size (adr (zt.T (lo + t))) (cj.lane (lo + t)).turns := OR.reads (hCd.turns (lo + t) hkn)
              have hml := HMLN.out
              have HL6 := Lib.hid (l6Step_c A (some ⟨zt.R (lo + t), 0, none⟩) (adr (zt.T (lo + t))) ca (zt.RC (lo + t)) (zt.TC (lo + t)) l (cj.lane (lo + t)) (lo + t) w.heap.size zt.mb m.length zt.mc cj.mem wr.drew hAd hRd hTd (OI.nilc (hCd.turns (lo + t) hkn)) (by have h := hCd.mem; rw [HME.out] at h; exact h) (by exact hBW) ⟨hm1, hm32⟩ ((HOK.out).words) hp ((HOK.out.at_ hkn).2) hwt hps (by omega))
              have HCd := Lib.hid hCd
              clear hCd hAd hRd hTd hXd h4 hml
              unfold lnV at HL6
              simp only [Int.natCast_add] at HL6
              rw [hwt] at HL6
              go_wp2_with fail
              refine wp_region_held_drew (S := fun w' => w'.cell? ⟨cb, 0, none⟩ = some (.slice (some ⟨zt.lb, 0, none⟩) N zt.lc) ∧ w'.cell? ⟨cb, 1, none⟩ = some (.slice (some ⟨zt.mb, 0, none⟩) m.length zt.mc)) (by kernel_rfl) ⟨c0, c1⟩ (fun hHeld => ?_)
              refine wpAnyH_take (i := 0) (v := ?_) rfl (by decide +kernel) (by decide +kernel) (by decide +kernel) (fun _ _ _ h => h) (Or.inl ⟨by rfl, ?_⟩) (by assumption) ?_
              rotate_left
              · (intro w hSw; (try dsimp only at hSw); obtain ⟨s0, s1⟩ := hSw; (try dsimp only [List.getElem_toArray, List.getElem_cons_succ, List.getElem_cons_zero]); go_simp)
                try with_reducible rfl
              try simp only [List.getElem_toArray, List.getElem_cons_succ, List.getElem_cons_zero, Act.put, List.setIfInBounds_toArray, List.set_cons_zero, List.set_cons_succ]
              refine wpAnyH_take (i := 1) (v := ?_) rfl (by decide +kernel) (by decide +kernel) (by decide +kernel) (fun _ _ _ h => h) (Or.inl ⟨by rfl, ?_⟩) (by assumption) ?_
              rotate_left
              · (intro w hSw; (try dsimp only at hSw); obtain ⟨s0, s1⟩ := hSw; (try dsimp only [List.getElem_toArray, List.getElem_cons_succ, List.getElem_cons_zero]); go_simp)
                try with_reducible rfl
              try simp only [List.getElem_toArray, List.getElem_cons_succ, List.getElem_cons_zero, Act.put, List.setIfInBounds_toArray, List.set_cons_zero, List.set_cons_succ]
              refine wpAnyH_take (i := 2) (v := ?_) rfl (by decide +kernel) (by decide +kernel) (by decide +kernel) (fun _ _ _ h => h) (Or.inl ⟨by rfl, ?_⟩) (by assumption) ?_
              rotate_left
              · (intro w hSw; (try dsimp only at hSw); obtain ⟨s0, s1⟩ := hSw; (try dsimp only [List.getElem_toArray, List.getElem_cons_succ, List.getElem_cons_zero]); go_simp)
                try with_reducible rfl
              try simp only [List.getElem_toArray, List.getElem_cons_succ, List.getElem_cons_zero, Act.put, List.setIfInBounds_toArray, List.set_cons_zero, List.set_cons_succ]
              refine wpAnyH_take (i := 3) (v := ?_) rfl (by decide +kernel) (by decide +kernel) (by decide +kernel) (fun _ _ _ h => h) (Or.inl ⟨by rfl, ?_⟩) (by assumption) ?_
              rotate_left
              · (intro w hSw; (try dsimp only at hSw); obtain ⟨s0, s1⟩ := hSw; (try dsimp only [List.getElem_toArray, List.getElem_cons_succ, List.getElem_cons_zero]); go_simp)
                try with_reducible rfl
              try simp only [List.getElem_toArray, List.getElem_cons_succ, List.getElem_cons_zero, Act.put, List.setIfInBounds_toArray, List.set_cons_zero, List.set_cons_succ]
              refine wpAnyH_take (i := 4) (v := ?_) rfl (by decide +kernel) (by decide +kernel) (by decide +kernel) (fun _ _ _ h => h) (Or.inl ⟨by rfl, ?_⟩) (by assumption) ?_
              rotate_left
              · (intro w hSw; (try dsimp only at hSw); obtain ⟨s0, s1⟩ := hSw; (try dsimp only [List.getElem_toArray, List.getElem_cons_succ, List.getElem_cons_zero]); go_simp)
                try with_reducible rfl
              try simp only [List.getElem_toArray, List.getElem_cons_succ, List.getElem_cons_zero, Act.put, List.setIfInBounds_toArray, List.set_cons_zero, List.set_cons_succ]
              refine wpAnyH_take (i := 5) (v := ?_) rfl (by decide +kernel) (by decide +kernel) (by decide +kernel) (fun _ _ _ h => h) (Or.inl ⟨by rfl, ?_⟩) (by assumption) ?_
              rotate_left
              · (intro w hSw; (try dsimp only at hSw); obtain ⟨s0, s1⟩ := hSw; (try dsimp only [List.getElem_toArray, List.getElem_cons_succ, List.getElem_cons_zero]); go_simp)
                try with_reducible rfl
              try simp only [List.getElem_toArray, List.getElem_cons_succ, List.getElem_cons_zero, Act.put, List.setIfInBounds_toArray, List.set_cons_zero, List.set_cons_succ]
              refine wpAnyH_take (i := 6) (v := ?_) rfl (by decide +kernel) (by decide +kernel) (by decide +kernel) (fun _ _ _ h => h) (Or.inl ⟨by rfl, ?_⟩) (by assumption) ?_
              rotate_left
              · (intro w hSw; (try dsimp only at hSw); obtain ⟨s0, s1⟩ := hSw; (try dsimp only [List.getElem_toArray, List.getElem_cons_succ, List.getElem_cons_zero]); go_simp)
                try with_reducible rfl
              try simp only [List.getElem_toArray, List.getElem_cons_succ, List.getElem_cons_zero, Act.put, List.setIfInBounds_toArray, List.set_cons_zero, List.set_cons_succ]
              refine wpAnyH_take (i := 8) (v := ?_) rfl (by decide +kernel) (by decide +kernel) (by decide +kernel) (fun _ _ _ h => h) (Or.inl ⟨by rfl, ?_⟩) (by assumption) ?_
              rotate_left
              · (intro w hSw; (try dsimp only at hSw); obtain ⟨s0, s1⟩ := hSw; (try dsimp only [List.getElem_toArray, List.getElem_cons_succ, List.getElem_cons_zero]); go_simp)
                try with_reducible rfl
              try simp only [List.getElem_toArray, List.getElem_cons_succ, List.getElem_cons_zero, Act.put, List.setIfInBounds_toArray, List.set_cons_zero, List.set_cons_succ]
              refine wpAnyH_take (i := 9) (v := ?_) rfl (by decide +kernel) (by decide +kernel) (by decide +kernel) (fun _ _ _ h => h) (Or.inl ⟨by rfl, ?_⟩) (by assumption) ?_
              rotate_left
              · (intro w hSw; (try dsimp only at hSw); obtain ⟨s0, s1⟩ := hSw; (try dsimp only [List.getElem_toArray, List.getElem_cons_succ, List.getElem_cons_zero]); go_simp)
                try with_reducible rfl
              try simp only [List.getElem_toArray, List.getElem_cons_succ, List.getElem_cons_zero, Act.put, List.setIfInBounds_toArray, List.set_cons_zero, List.set_cons_succ]
              refine wpAnyH_take (i := 10) (v := ?_) rfl (by decide +kernel) (by decide +kernel) (by decide +kernel) (fun _ _ _ h => h) (Or.inl ⟨by rfl, ?_⟩) (by assumption) ?_
              rotate_left
              · (intro w hSw; (try dsimp only at hSw); obtain ⟨s0, s1⟩ := hSw; (try dsimp only [List.getElem_toArray, List.getElem_cons_succ, List.getElem_cons_zero]); go_simp)
                try with_reducible rfl
              try simp only [List.getElem_toArray, List.getElem_cons_succ, List.getElem_cons_zero, Act.put, List.setIfInBounds_toArray, List.set_cons_zero, List.set_cons_succ]
              refine wpAnyH_take (i := 11) (v := ?_) rfl (by decide +kernel) (by decide +kernel) (by decide +kernel) (fun _ _ _ h => h) (Or.inl ⟨by rfl, ?_⟩) (by assumption) ?_
              rotate_left
              · (intro w hSw; (try dsimp only at hSw); obtain ⟨s0, s1⟩ := hSw; (try dsimp only [List.getElem_toArray, List.getElem_cons_succ, List.getElem_cons_zero]); go_simp)
                try with_reducible rfl
              try simp only [List.getElem_toArray, List.getElem_cons_succ, List.getElem_cons_zero, Act.put, List.setIfInBounds_toArray, List.set_cons_zero, List.set_cons_succ]
              refine wpAnyH_ready (rs := [7]) (by kernel_rfl) (by simp) ?_
              refine AllReadyH.cons rfl (fun K hK => ?_) AllReadyH.nil
              try dsimp only [List.getElem_toArray, List.getElem_cons_succ, List.getElem_cons_zero]
              go_simp
              refine hK.out _ _ ?_ (fun hHeld2 => ?_)
              · exact hHeld
              clear hK K
              try simp only [List.getElem_toArray, List.getElem_cons_succ, List.getElem_cons_zero, Act.put, List.setIfInBounds_toArray, List.set_cons_zero, List.set_cons_succ]
              refine wpAnyH_ready (rs := [12]) (by kernel_rfl) (by simp) ?_
              refine AllReadyH.cons rfl (fun K hK => ?_) AllReadyH.nil
              try dsimp only [List.getElem_toArray, List.getElem_cons_succ, List.getElem_cons_zero]
              go_simp
              go_at_call 40
              refine (HL6.out).mono ?_
              rintro e w4 ⟨r, rc, t', tc, rfl, hL4, hM4, hg4⟩
              unfold lnV
              have hmb4 := (OR.base_le HCd.out.mem)
              have k0 := (cell_heap_eq (hg4.block cb (by exact hcbs) (fun e => hcbm (by injection e with e; exact e.symm))) 0).trans c0
              have k1 := (cell_heap_eq (hg4.block cb (by exact hcbs) (fun e => hcbm (by injection e with e; exact e.symm))) 1).trans c1
              try dsimp only
              refine hK.out _ _ ?_ (fun hHeld3 => ?_)
              · exact ⟨k0, k1⟩
              clear hK K hHeld2
              try simp only [List.getElem_toArray, List.getElem_cons_succ, List.getElem_cons_zero, Act.put, List.setIfInBounds_toArray, List.set_cons_zero, List.set_cons_succ]
              refine wpAnyH_ready (rs := [13]) (by kernel_rfl) (by simp) ?_
              refine AllReadyH.cons rfl (fun K hK => ?_) AllReadyH.nil
              try dsimp only [List.getElem_toArray, List.getElem_cons_succ, List.getElem_cons_zero]
              go_simp
              refine hK.out _ _ ?_ (fun hHeld4 => ?_)
              · exact hHeld3
              clear hK K hHeld3
              try simp only [List.getElem_toArray, List.getElem_cons_succ, List.getElem_cons_zero, Act.put, List.setIfInBounds_toArray, List.set_cons_zero, List.set_cons_succ]
              refine wpAnyH_ready (rs := [14]) (by kernel_rfl) (by simp) ?_
              refine AllReadyH.cons rfl (fun K hK => ?_) AllReadyH.nil
              have hnew := CM.lane_new HCd.out (by exact hBW) hkn HOK.out.len hL4 (by rw [HME.out]; exact hM4) ((simp1_len _ _ _ _).2) hg4
              have hth : w4.there zt.lb ((lo + t) * 4) 4 := there4 HCd.out hg4 (by exact hBW) hkn
              refine (if_pos ?hwS).mpr ?_
              case hwS => rfl
              refine wp_store_mid _ _ _ rfl zt.lb ((lo + t) * 4) _ rfl rfl hth (by kernel_rfl) (by simp [Value.oneCell']) ?_
              refine hK.out _ _ ?_ (fun hHeld5 => ?_)
              · exact ⟨(World.cell?_setCells_out _ _ _ _ _ (fun e _ => absurd e hcbl)).trans hHeld4.1, (World.cell?_setCells_out _ _ _ _ _ (fun e _ => absurd e hcbl)).trans hHeld4.2⟩
              clear hK K hHeld4 hHeld
              refine wpAnyH_done (by kernel_rfl) ?_ _
              have HC5 := Lib.hid (show CM (fun _ => True) _ w.heap.size N _ (stepAt l cj (lo + t)) from hnew.1)
              have HST5 := Lib.hid hnew.2
              clear hnew hth hL4 hM4 hg4 k0 k1 hmb4
              rw [HSI.out] at hok5
              have HOK5 := Lib.hid hok5.1
              have HSC5 := Lib.hid ((HCt.out.ext (Ext.drew wr)).next HC5.out ⟨rfl, rfl, rfl, rfl⟩ HST5.out hok5.1 hok5.2)
              have HST6 := Lib.hid ((HSTt.out.trans (StC.of_ext (Ext.drew wr) hBW)).trans HST5.out)
              simp only [if_true] at HRI
              rw [HSI.out] at HRI
              clear hok5 hHeld5 e0 e1 e2 e3 HL6 x0t p0t
              generalize w4.setCells _ _ _ = w5 at *
              go_wp2
              go_roundw
              case rel => exact ⟨t + 1, zt.put (lo + t) r rc t' tc, by omega, by go_num, by rw [HRI.out]; exact HSC5.out, HZT.out, HST6.out⟩
              case measure => simp [intOf]; omega
          · obtain rfl : t = S := by omega
            have hnI : ¬ ((t : Int) < (t : Int)) := by omega
            have hLF := Lib.hid (sl7Free_c (ca := ca) (A := A) HCt.out.cm HCt.out.ok N8 HCt.out.hB)
            unfold cwV at hLF
            rw [HME.out] at hLF
            go_wp2_with fail
            refine (hLF.out).mono ?_
            rintro e w7 ⟨rfl, hC7, hst7⟩
            have HS7 := Lib.hid (HCt.out.next hC7 (SmG.refl _) hst7 (HCt.out.ok.passC).1 (by rw [(HCt.out.ok.passC).2.2]))
            have HB7 := Lib.hid (HBt.out.trans hst7.bel)
            clear hC7 hst7
            go_wp2
            go_roundg (T - (i + 1))
            case measure => omega
            case rel => exact ⟨i + 1, zt, by omega, by rw [HNX.out]; go_num, by rw [HGD.out]; exact HS7.out, HB7.out⟩
    · obtain rfl : i = T := by omega
      have hov := HT1.out
      rw [hov] at hLD
      go_wp2_with fail
      refine (hLD.out).mono ?_
      rintro e w6 ⟨rfl, hx6⟩
      have HC6 := Lib.hid (HCi.out.ext hx6)
      have HB6 := Lib.hid (HBr.out.trans (hx6.below.mono (by have := HBr.out.size; exact this)))
      replace c0 := hx6.cell c0
      replace c1 := hx6.cell c1
      clear hx6 hLD
      go_wp2
      go_ret
      refine ⟨some ⟨zi.mb, 0, none⟩, zi.mc, by rw [HRE.out, HME0.out]; rfl, .inr ?_, HB6.out⟩
      rw [HRE.out, HME0.out]
      have h := HC6.out.cm.mem
      rw [HME0.out] at h
      exact h

end Go.Proofs.Ytelbfeidpcojmaa
