/- Part 12 of what the claim needs. -/
import Derived.Test.YtelbfeidpcojmaaGreatSa4
import Derived.Test.YtelbfeidpcojmaaGreatSa7
import Derived.Test.YtelbfeidpcojmaaGreatSa9
import Derived.Test.YtelbfeidpcojmaaGreatSa10
import Derived.Test.YtelbfeidpcojmaaGreatSa11
import Derived.StillTailTactics
import Derived.Deep.LoopGhost
import Derived.Deep.RegionHeld
namespace Go.Proofs.YtelbfeidpcojmaaGreat
open Go.RowKit
set_option linter.unusedVariables false
set_option linter.unusedSimpArgs false

def ordOk (xs : List Int) (n : Int) : Bool := inR n 1 8 && (decide (xs.length ≤ 40) && (allIn xs n && (List.range n.toNat).all fun k => xs.any fun x => x == (k : Int)))
theorem orBits_bit (xs : List Int) (hx : ∀ x ∈ xs, 0 ≤ x) (j : Nat) : (orBits xs).testBit j = xs.any fun x => x == (j : Int) := by
  have : ∀ (xs : List Int) (m : Nat), (∀ x ∈ xs, 0 ≤ x) → (xs.foldl (fun m x => m ||| 2 ^ x.toNat) m).testBit j = (m.testBit j || xs.any fun x => x == (j : Int)) := by
    intro xs
    induction xs with
    | nil => intro m _; simp
    | cons x xs ih =>
      intro m hx
      have h0 := hx x List.mem_cons_self
      simp only [List.foldl_cons]
      rw [ih _ (fun y hy => hx y (List.mem_cons_of_mem _ hy)), Nat.testBit_or, Nat.testBit_two_pow, List.any_cons, Bool.or_assoc]
      congr 2
      rw [Bool.eq_iff_iff]
      simp only [decide_eq_true_eq, beq_iff_eq]
      omega
  have := this xs 0 hx
  simpa [orBits] using this
theorem ordOk_mask (xs : List Int) (n : Int) : ordOk xs n = (decide (xs.length ≤ 40) && inR n 1 8 && (maskOfI xs n == maskAllI n)) := by
  unfold ordOk maskOfI maskAllI
  cases hn : inR n 1 8 with
  | false => simp
  | true =>
    rw [inR_iff] at hn
    cases ha : allIn xs n with
    | false =>
      simp only [Bool.true_and, Bool.false_and, Bool.and_false, Bool.and_true, if_true, if_false, Bool.false_eq_true]
      have hp : (0 : Int) < 2 ^ n.toNat := by exact_mod_cast Nat.two_pow_pos _
      have : ((-1 : Int) == 2 ^ n.toNat - 1) = false := by
        rw [beq_eq_false_iff_ne]; omega
      rw [this, Bool.and_false]
    | true =>
      simp only [Bool.true_and, Bool.and_true, if_true]
      congr 1
      have hall : ∀ x ∈ xs, 0 ≤ x ∧ x ≤ n - 1 := fun x hx => by
        have := List.all_eq_true.1 ha x hx
        exact inR_iff.1 this
      have hb := orBits_bit xs (fun x hx => (hall x hx).1)
      obtain ⟨N, rfl⟩ := Int.eq_ofNat_of_zero_le (show 0 ≤ n by omega)
      rw [Int.toNat_natCast]
      have hc : ((2 : Int) ^ N - 1) = ((2 ^ N - 1 : Nat) : Int) := by
        have := Nat.two_pow_pos N
        have e : ((2 ^ N : Nat) : Int) = (2 : Int) ^ N := by simp
        omega
      rw [hc, Bool.eq_iff_iff, beq_iff_eq, Int.natCast_inj, List.all_eq_true]
      constructor
      · intro h
        apply Nat.eq_of_testBit_eq
        intro j
        rw [hb, Nat.testBit_two_pow_sub_one]
        by_cases hj : j < N
        · rw [h j (List.mem_range.2 hj)]; simp [hj]
        · rw [decide_eq_false hj, List.any_eq_false]
          intro x hx
          have := hall x hx
          simp only [beq_iff_eq]
          omega
      · intro h k hk
        have hk := List.mem_range.1 hk
        rw [← hb, h, Nat.testBit_two_pow_sub_one]
        simp [hk]
theorem ordOk_in {xs : List Int} {n : Int} (h : ordOk xs n = true) : ∃ N : Nat, n = (N : Int) ∧ 1 ≤ N ∧ N ≤ 8 ∧ 1 ≤ xs.length ∧ xs.length ≤ 40 ∧ (∀ x ∈ xs, ∃ k : Nat, x = (k : Int) ∧ k < N) ∧ ∀ k, k < N → (k : Int) ∈ xs := by
  simp only [ordOk, Bool.and_eq_true, decide_eq_true_eq, inR_iff, List.all_eq_true, List.any_eq_true, beq_iff_eq] at h
  obtain ⟨h1, h2, h3, h4⟩ := h
  obtain ⟨N, rfl⟩ := Int.eq_ofNat_of_zero_le (show 0 ≤ n by omega)
  rw [Int.toNat_natCast] at h4
  have hm : ∀ k, k < N → (k : Int) ∈ xs := fun k hk => by
    obtain ⟨x, hx, rfl⟩ := h4 k (List.mem_range.2 hk)
    exact hx
  refine ⟨N, rfl, by omega, by omega, ?_, h2, fun x hx => ?_, hm⟩
  · have := hm 0 (by omega)
    exact List.length_pos_of_mem this
  · have := inR_iff.1 (List.all_eq_true.1 h3 x hx)
    exact ⟨x.toNat, by omega, by omega⟩

set_option maxHeartbeats 1000000 in
theorem sOrderValid_c (A : Option Addr) (c : Nat) (xs : List Int) (n : Int) (w : World) (hA : RdI w w.heap.size A xs) (hl : xs.length ≤ 1000000000) :
    Calls Tryz.prog 8 #[.slice A xs.length c, .int .i64 n] w fun e w' => e = .returned (.bool (ordOk xs n)) ∧ w = w' := by
  have HO := Lib.hid (ordOk_mask xs n)
  have HMO := Lib.hid (sMaskOf_c A c xs n w hA hl)
  have HMA := Lib.hid (sMaskAll_c n w)
  by_cases h40 : xs.length ≤ 40
  · have h40I : (xs.length : Int) ≤ 40 := by omega
    cases hn : inR n 1 8 with
    | false =>
      have HN := Lib.hid hn
      go_enter Tryz.func8, Tryz.ntmps8
      go_wp2_with (go_at_call 33; refine (l1In_c _ _ _ _).mono ?_; rintro e w' ⟨rfl, rfl⟩)
      go_ret
      exact ⟨retb (by rw [HO.out, HN.out]; simp), rfl⟩
    | true =>
      have HN := Lib.hid hn
      have HV : Hid (ordOk xs n = (maskOfI xs n == maskAllI n)) := Lib.hid (by rw [HO.out, HN.out, decide_eq_true h40]; simp)
      generalize maskOfI xs n = a at *
      generalize maskAllI n = b at *
      go_enter Tryz.func8, Tryz.ntmps8
      go_wp2_with (first | (go_at_call 33; refine (l1In_c _ _ _ _).mono ?_; rintro e w' ⟨rfl, rfl⟩) | (go_at_call 34; refine HMO.out.mono ?_; rintro e w' ⟨rfl, rfl⟩) | (go_at_call 35; refine HMA.out.mono ?_; rintro e w' ⟨rfl, rfl⟩))
      go_ret
      exact ⟨retb HV.out.symm, rfl⟩
  · have h40I : ¬ ((xs.length : Int) ≤ 40) := by omega
    have HN := Lib.hid h40
    clear h40
    go_enter Tryz.func8, Tryz.ntmps8
    go_wp2
    go_ret
    exact ⟨retb (by rw [HO.out, decide_eq_false HN.out]; simp), rfl⟩

set_option maxRecDepth 100000 in
set_option maxHeartbeats 2000000 in
theorem ovF_c (x n : Int) (b : Nat) (w : World) (hn : 1 ≤ n ∧ n ≤ 8) (hb : w.cell? ⟨b, 0, none⟩ = some (.int .i64 n)) : Calls Tryz.prog 53 #[.int .i64 x, .pointer (some ⟨b, 0, none⟩)] w fun e w' => e = .returned (.bool (!inR x 0 (n - 1))) ∧ w = w' := by
  go_enter Tryz.func53, Tryz.ntmps53
  go_wp2_with (go_at_call 54; refine (within_c _ _ _ _).mono ?_; rintro e w' ⟨rfl, rfl⟩)
  go_ret
  exact ⟨rfl, rfl⟩

set_option maxRecDepth 100000 in
set_option maxHeartbeats 2000000 in
theorem ovIndex_c (A : Option Addr) (c : Nat) (l : List Int) (n : Int) (b : Nat) (w : World) (hA : RdI w w.heap.size A l) (hl : l.length ≤ 1000000000) (hn : 1 ≤ n ∧ n ≤ 8) (hb : w.cell? ⟨b, 0, none⟩ = some (.int .i64 n)) (g : Int → Bool) (hgd : g = fun x => !inR x 0 (n - 1)) :
    Calls Tryz.prog 87 #[.slice A l.length c, .func (Fn.func 53) #[] #[.pointer (some ⟨b, 0, none⟩)]] w fun e w' => ∃ i : Int, e = .returned (.int .i64 i) ∧ decide (0 ≤ i) = l.any g ∧ w = w' := by
  have HGD := Lib.hid (fun x => show g x = !inR x 0 (n - 1) by rw [hgd])
  clear hgd
  go_enter Tryz.func87, Tryz.ntmps87
  go_wp2
  go_loop [8] (fun kv => ∃ k : Nat, k ≤ l.length ∧ kv = .int .i64 k ∧ Hid ((l.take k).any g = false)) (fun kv => l.length - (intOf kv).toNat)
  case atStart => exact ⟨0, Nat.zero_le _, rfl, Lib.hid (by simp)⟩
  case round =>
    obtain ⟨k, hk, rfl, HN⟩ := hrel
    by_cases hlt : k < l.length
    · obtain ⟨b', off, x, rfl, hbB, hx, d0⟩ := hA.at_ hlt
      have HX := Lib.hid hx
      have hkI : (k : Int) < (l.length : Int) := by omega
      clear hx
      go_wp2_with fail
      refine (ovF_c x n b _ hn hb).mono ?_
      rintro e w1 ⟨rfl, rfl⟩
      rw [← HGD.out x]
      cases hgx : g x with
      | true =>
        have HG := Lib.hid (any_hit HX.out hgx)
        clear hgx
        go_wp2
        go_ret
        exact ⟨k, rfl, by rw [HG.out]; simp, rfl⟩
      | false =>
        have HG := Lib.hid (show (l.take (k + 1)).any g = false by rw [any_take HX.out HN.out, hgx])
        clear hgx
        go_wp2
        go_round
        case rel => exact ⟨k + 1, by omega, by go_num, HG⟩
        case measure => simp [intOf]; omega
    · obtain rfl : k = l.length := by omega
      have HN2 := Lib.hid (show l.any g = false by have := HN.out; rwa [List.take_length] at this)
      go_wp2
      go_ret
      exact ⟨-1, rfl, by rw [HN2.out]; simp, rfl⟩

set_option maxRecDepth 100000 in
set_option maxHeartbeats 2000000 in
theorem ovContains_c (A : Option Addr) (c : Nat) (l : List Int) (n : Int) (b : Nat) (w : World) (hA : RdI w w.heap.size A l) (hl : l.length ≤ 1000000000) (hn : 1 ≤ n ∧ n ≤ 8) (hb : w.cell? ⟨b, 0, none⟩ = some (.int .i64 n)) :
    Calls Tryz.prog 52 #[.slice A l.length c, .func (Fn.func 53) #[] #[.pointer (some ⟨b, 0, none⟩)]] w fun e w' => e = .returned (.bool (!allIn l n)) ∧ w = w' := by
  have HV := Lib.hid (show (l.any fun x => !inR x 0 (n - 1)) = !allIn l n by simp [allIn, List.all_eq_not_any_not])
  have HI := Lib.hid (ovIndex_c A c l n b w hA hl hn hb _ rfl)
  go_enter Tryz.func52, Tryz.ntmps52
  go_wp2_with fail
  refine (HI.out).mono ?_
  rintro e w1 ⟨i, rfl, hi, rfl⟩
  rw [HV.out] at hi
  have HI2 := Lib.hid hi
  clear hi
  go_wp2
  go_ret
  exact ⟨retb (by first | exact HI2.out | (rw [← HI2.out]; simp)), rfl⟩

set_option maxRecDepth 100000 in
set_option maxHeartbeats 4000000 in
theorem iOrderValid_c (A : Option Addr) (c : Nat) (xs : List Int) (n : Int) (w : World) (hA : RdI w w.heap.size A xs) (hl : xs.length ≤ 1000000000) :
    Calls Tryz.prog 25 #[.slice A xs.length c, .int .i64 n] w fun e w' => e = .returned (.bool (ordOk xs n)) ∧ Ext w w' := by
  have hX := Ext.alloc w (.cells #[.int .i64 n] 3)
  have hN := heap_alloc_new w (.cells #[.int .i64 n] 3)
  have hbx : (w.alloc (.cells #[.int .i64 n] 3)).cell? ⟨w.heap.size, 0, none⟩ = some (.int .i64 n) := (cell_of_heap hN 0).trans rfl
  have hA2 := (hA.below hX.below).more hX.size
  have HX := Lib.hid hX
  have hmf : ∀ (fn : Fn) (first cap : Array Value) (w : World), (Instr.makeFunc fn first cap).run Tryz.prog w = .ok (.func fn first cap) w := fun _ _ _ _ => rfl
  clear hX hN hA
  cases hn : inR n 1 8 with
  | false =>
    have HV := Lib.hid (show ordOk xs n = false by simp [ordOk, hn])
    go_enter Tryz.func25, Tryz.ntmps25
    go_wp2_with fail
    generalize w.alloc (.cells #[.int .i64 n] 3) = w1 at *
    go_wp2_with fail
    refine (isLanes_c n w1).mono ?_
    rintro e w2 ⟨rfl, rfl⟩
    rw [hn]
    go_wp2
    go_ret
    exact ⟨retb HV.out.symm, HX.out⟩
  | true =>
    have hn8 := inR_iff.1 hn
    by_cases h40 : xs.length ≤ 40
    · have h40I : (xs.length : Int) ≤ 40 := by omega
      have HV := Lib.hid (show ordOk xs n = (allIn xs n && (List.range n.toNat).all fun k => xs.any fun x => x == (k : Int)) by simp [ordOk, hn, h40])
      cases ha : allIn xs n with
      | false =>
        go_enter Tryz.func25, Tryz.ntmps25
        go_wp2_with fail
        generalize w.alloc (.cells #[.int .i64 n] 3) = w1 at *
        go_wp2_with fail
        refine (isLanes_c n w1).mono ?_
        rintro e w2 ⟨rfl, rfl⟩
        rw [hn]
        go_wp2_with fail
        refine (ovContains_c A c xs n _ w1 hA2 hl hn8 hbx).mono ?_
        rintro e w2 ⟨rfl, rfl⟩
        rw [ha]
        go_wp2
        go_ret
        exact ⟨retb (by rw [HV.out, ha]; rfl), HX.out⟩
      | true =>
        obtain ⟨N, rfl⟩ := Int.eq_ofNat_of_zero_le (show 0 ≤ n by omega)
        go_enter Tryz.func25, Tryz.ntmps25
        go_wp2_with fail
        generalize w.alloc (.cells #[.int .i64 N] 3) = w1 at *
        go_wp2_with fail
        refine (isLanes_c N w1).mono ?_
        rintro e w2 ⟨rfl, rfl⟩
        rw [hn]
        go_wp2_with fail
        refine (ovContains_c A c xs N _ w1 hA2 hl hn8 hbx).mono ?_
        rintro e w2 ⟨rfl, rfl⟩
        rw [ha]
        go_wp2
        go_loopw [20] (fun kv wr => ∃ k : Nat, k ≤ N ∧ kv = .int .i64 k ∧ Hid (∀ j, j < k → (xs.any fun x => x == (j : Int)) = true) ∧ w1 = wr) (fun kv _ => N - (intOf kv).toNat)
        case atStart => exact ⟨0, Nat.zero_le _, rfl, Lib.hid (fun j hj => absurd hj (Nat.not_lt_zero _)), rfl⟩
        case round =>
          obtain ⟨k, hk, rfl, HK, rfl⟩ := hrel
          by_cases hlt : k < N
          · have hkI : (k : Int) < (N : Int) := by omega
            cases hc : (xs.any fun x => x == (k : Int)) with
            | true =>
              have HK2 := Lib.hid (show ∀ j, j < k + 1 → (xs.any fun x => x == (j : Int)) = true from fun j hj => by
                by_cases e : j = k
                · rw [e]; exact hc
                · exact HK.out j (by omega))
              go_wp2_with fail
              refine (sliceContains_c A c xs k w1 hA2 (by omega)).mono ?_
              rintro e w2 ⟨rfl, rfl⟩
              rw [hc]
              clear hc
              go_wp2
              go_roundw
              case rel => exact ⟨k + 1, by omega, by go_num, HK2, by first | rfl | trivial⟩
              case measure => simp [intOf]; omega
            | false =>
              have HF := Lib.hid (show (List.range N).all (fun k => xs.any fun x => x == (k : Int)) = false from List.all_eq_false.2 ⟨k, List.mem_range.2 hlt, by rw [hc]; simp⟩)
              go_wp2_with fail
              refine (sliceContains_c A c xs k w1 hA2 (by omega)).mono ?_
              rintro e w2 ⟨rfl, rfl⟩
              rw [hc]
              clear hc
              go_wp2
              go_ret
              exact ⟨retb (by rw [HV.out, ha, Int.toNat_natCast, HF.out]; rfl), HX.out⟩
          · obtain rfl : k = N := by omega
            have HF := Lib.hid (show (List.range k).all (fun k => xs.any fun x => x == (k : Int)) = true from List.all_eq_true.2 fun j hj => HK.out j (List.mem_range.1 hj))
            go_wp2
            go_ret
            exact ⟨retb (by rw [HV.out, ha, Int.toNat_natCast, HF.out]; rfl), HX.out⟩
    · have h40I : ¬ ((xs.length : Int) ≤ 40) := by omega
      have HV := Lib.hid (show ordOk xs n = false by simp [ordOk, hn, h40])
      clear h40
      go_enter Tryz.func25, Tryz.ntmps25
      go_wp2_with fail
      generalize w.alloc (.cells #[.int .i64 n] 3) = w1 at *
      go_wp2_with fail
      refine (isLanes_c n w1).mono ?_
      rintro e w2 ⟨rfl, rfl⟩
      rw [hn]
      go_wp2
      go_ret
      exact ⟨retb HV.out.symm, HX.out⟩


set_option maxRecDepth 100000 in
set_option maxHeartbeats 4000000 in
theorem stepOf_c {O : Nat → Prop} {w : World} {B n mg cb : Nat} {A : Option Addr} {ca : Nat} {l : List Cd} {ob : Nat} {ga : Nat → Nat} {z : Gm} {c : Cw} (h : CS O w B n mg cb A ca l ob ga z c) (hp : pv l = true) (hn : n ≤ 8) {k : Nat} (hk : k < n) (hml : 1 ≤ c.mem.length ∧ c.mem.length ≤ 32) :
    Calls Tryz.prog 61 #[.pointer (some ⟨mg, 0, none⟩), .pointer (some ⟨cb, 0, none⟩), .int .i64 k] w fun e w' => e = .returned (.tuple #[]) ∧ ∃ z', CS O w' B n mg cb A ca l ob ga z' (passC l (stepIf l c k)) ∧ SmG z' z ∧ StC O B w w' := by
  obtain ⟨c0, c1⟩ := h.cells
  have HS := Lib.hid h
  have hknI : (k : Int) < (n : Int) := by omega
  have hBr := h.hB
  clear h
  go_enter Tryz.func61, Tryz.ntmps61
  go_wp2_with fail
  go_still_tail 12, (by kernel_rfl)
  go_wp2_with fail
  have hSd := HS.out.ext (Ext.drew w)
  refine (step_c hSd.mach hSd.cm hSd.ok hk hn hp hSd.hB rfl hml).mono ?_
  rintro e w2 ⟨rfl, z2, hC2, hz2, hst2⟩
  have hok2 := stepIf_ok hp hn hSd.ok hk
  have HS2 := Lib.hid (hSd.next hC2 hz2 hst2 hok2.1 hok2.2)
  have HST2 := Lib.hid ((StC.of_ext (O := O) (Ext.drew w) hBr).trans hst2)
  have HZ2 := Lib.hid hz2
  clear hSd hC2 hz2 hst2 hok2 c0 c1
  go_wp2_with fail
  refine (pass_c HS2.out hp hn).mono ?_
  rintro e w3 ⟨rfl, hP, hst3⟩
  have HP := Lib.hid hP
  have HST3 := Lib.hid (HST2.out.trans hst3)
  clear hP hst3
  go_wp2
  go_end0
  exact ⟨rfl, z2, HP.out, HZ2.out, HST3.out⟩

def GmP (w : World) (R : List Int) (e : Ending) (w' : World) : Prop :=
  ∃ (A : Option Addr) (c : Nat), e = .returned (.slice A R.length c) ∧ OwI w' w.heap.size A R.length c R ∧ Below w.heap.size w w'

def orderOk (l : List Cd) (n : Int) (m xs : List Int) : Bool := lockOk l n m && ordOk xs n
noncomputable def orderM (l : List Cd) (n : Int) (m xs : List Int) : List Int := if orderOk l n m xs then (runE l (orSch xs) (Cw.start n.toNat m)).mem else []
/-- What a valid run in an order is about. -/
theorem order_in {l : List Cd} {n : Int} {m xs : List Int} (h : orderOk l n m xs = true) : ∃ N : Nat, n = (N : Int) ∧ 1 ≤ N ∧ N ≤ 8 ∧ 1 ≤ xs.length ∧ xs.length ≤ 40 ∧
    (∀ x ∈ xs, ∃ k : Nat, x = (k : Int) ∧ k < N) ∧ SchOk N xs.length (orSch xs) ∧ pv l = true ∧ wordsOk m ∧ 1 ≤ m.length ∧ m.length ≤ 32 := by
  simp only [orderOk, lockOk, Bool.and_eq_true] at h
  obtain ⟨⟨h1, h2, h3⟩, h4⟩ := h
  obtain ⟨N, rfl, n1, n8, x1, x2, hx, hc⟩ := ordOk_in h4
  obtain ⟨w1, w2, w3⟩ := memOk_iff.1 h3
  exact ⟨N, rfl, n1, n8, x1, x2, hx, orSch_ok hx hc n1, h1, w1, w2, w3⟩
theorem stepG_or {l : List Cd} {c : Cw} {xs : List Int} {i k : Nat} (h : xs[i % xs.length]? = some (k : Int)) : stepG l c (orSch xs i) = passC l (stepIf l c k) := by
  have : orSch xs i = [k] := by unfold orSch; rw [List.getD_eq_getElem?_getD, h]; simp
  rw [this, stepG_one]

def IoRel (w : World) (n mg cb : Nat) (A : Option Addr) (ca : Nat) (l : List Cd) (ob : Nat) (ga : Nat → Nat) (sch : Nat → List Nat) (c : Cw) (T : Nat) (kv : Value) (wr : World) : Prop :=
  ∃ (i : Nat) (z : Gm), i ≤ T ∧ kv = .int .i64 i ∧ CS (fun _ => True) wr w.heap.size n mg cb A ca l ob ga z (runC l sch c i) ∧ Below w.heap.size w wr

set_option maxRecDepth 100000 in
set_option maxHeartbeats 8000000 in
theorem runOrder_c (A M X : Option Addr) (ca cm cx : Nat) (l : List Cd) (N : Nat) (m xs : List Int) (w : World) (hA : RdC w w.heap.size A l) (hM : RdI w w.heap.size M m) (hX : RdI w w.heap.size X xs)
    (N1 : 1 ≤ N) (N8 : N ≤ 8) (x1 : 1 ≤ xs.length) (x40 : xs.length ≤ 40) (hxs : ∀ x ∈ xs, ∃ k : Nat, x = (k : Int) ∧ k < N) (hsch : SchOk N xs.length (orSch xs)) (hp : pv l = true) (hw : wordsOk m) (hm1 : 1 ≤ m.length) (hm32 : m.length ≤ 32) :
    Calls Tryz.prog 29 #[.slice A l.length ca, .int .i64 N, .slice M m.length cm, .slice X xs.length cx] w (GmP w (runE l (orSch xs) (Cw.start N m)).mem) := by
  have HA := Lib.hid hA
  have HX := Lib.hid hX
  have h0 : CwOk l N (Cw.start N m) := CwOk.start hw
  have hn0 := start_nrm (l := l) N1 m
  obtain ⟨T1, T2, T3⟩ := run_T hp N8 hsch h0 hn0
  have HT1 := Lib.hid T1
  have HT2 := Lib.hid T2
  have HRO := Lib.hid (fun i => run_ok' hp N8 hsch h0 hn0 i)
  have HXS := Lib.hid hxs
  have HRE : Hid (runE l (orSch xs) (Cw.start N m) = runC l (orSch xs) (Cw.start N m) (endT l (orSch xs) (Cw.start N m))) := Lib.hid rfl
  have hTb : endT l (orSch xs) (Cw.start N m) ≤ 3200000 := by
    have : xs.length * 80000 ≤ 40 * 80000 := Nat.mul_le_mul_right _ x40
    omega
  have hc0 : runC l (orSch xs) (Cw.start N m) 0 = Cw.start N m := rfl
  have HC0 := Lib.hid hc0
  have hmc : M = none → cm = 0 := fun e => by
    obtain ⟨b, off, e2, _⟩ := hM.2 (by omega)
    rw [e] at e2; cases e2
  have HMC := Lib.hid hmc
  clear hxs hsch h0 hn0 T1 T2 T3 hc0 hw hmc
  have HSE := Lib.hid (fun i => show runC l (orSch xs) (Cw.start N m) (i + 1) = stepG l (runC l (orSch xs) (Cw.start N m) i) (orSch xs i) from rfl)
  have HGS := Lib.hid (fun (c : Cw) (i k : Nat) (h : xs[i % xs.length]? = some (k : Int)) => stepG_or (l := l) (c := c) h)
  generalize hTe : endT l (orSch xs) (Cw.start N m) = T at *
  clear hTe
  generalize orSch xs = sch at *
  go_enter Tryz.func29, Tryz.ntmps29
  go_wp2_with fail
  refine (newCrowd_c M cm m N w hM ⟨N1, N8⟩ ⟨hm1, hm32⟩ HMC.out).mono ?_
  rintro e w3 ⟨z, rfl, hC, b3⟩
  have hs3 := b3.size
  have hxA := Ext.alloc w3 (.cells #[.slice (some ⟨z.lb, 0, none⟩) N z.lc, .slice (some ⟨z.mb, 0, none⟩) m.length z.mc] 67)
  have hNA := heap_alloc_new w3 (.cells #[.slice (some ⟨z.lb, 0, none⟩) N z.lc, .slice (some ⟨z.mb, 0, none⟩) m.length z.mc] 67)
  have b4 := b3.alloc b3.size (.cells #[.slice (some ⟨z.lb, 0, none⟩) N z.lc, .slice (some ⟨z.mb, 0, none⟩) m.length z.mc] 67)
  have hX4 := (hX.below b4).more b4.size
  have hA4 := (hA.below b4).more b4.size
  have HC4 := Lib.hid (hC.ext hxA)
  have HB4 := Lib.hid (b4)
  have HN4 := Lib.hid hNA
  have hcb : w.heap.size ≤ w3.heap.size := hs3
  have hw2 : w.heap.size ≤ w.heap.size := Nat.le_refl _
  clear hxA hNA b3 b4 hC hM hX hA hs3
  go_wp2_with fail
  generalize w3.alloc (.cells #[.slice (some ⟨z.lb, 0, none⟩) N z.lc, .slice (some ⟨z.mb, 0, none⟩) m.length z.mc] 67) = w4 at *
  generalize w3.heap.size = cb at *
  refine (newMachine_c A ca l w4 hA4 hp).mono ?_
  rintro e w5 ⟨mg, ob, ga, rfl, hmk, b5⟩
  have hX5 := (hX4.below b5).more b5.size
  have hs5 := b5.size
  have hC5 := HC4.out.ext (Ext.of_below b5)
  have hN5 := (Ext.of_below b5).heap_ HN4.out
  have HB5 := Lib.hid (below_trans HB4.out (Nat.le_refl _) b5)
  have HCS : Hid (CS (fun _ => True) w5 w.heap.size N mg cb A ca l ob ga z (runC l sch (Cw.start N m) 0)) := Lib.hid (by
    rw [HC0.out]
    have hr := HRO.out 0
    rw [HC0.out] at hr
    have hC6 : CM (fun _ => True) w5 w.heap.size N z (Cw.start N m) := ⟨OR.mono hC5.row hw2, fun k hk => OR.mono (hC5.regs k hk) hw2, fun k hk => OR.mono (hC5.turns k hk) hw2, OR.mono hC5.mem hw2, hC5.rm, hC5.rr, hC5.tm, hC5.tr, hC5.tt, trivial, trivial, fun _ _ => trivial, fun _ _ _ _ => trivial, fun _ _ => trivial⟩
    have hB4s := HB4.out.size
    exact ⟨⟨hmk.blk, by have := hmk.gB; omega, OR.mono hmk.own hB4s, fun p hp' ho' => ⟨by have := (hmk.bks p hp' ho').1; omega, (hmk.bks p hp' ho').2⟩, HA.out.below HB5.out⟩, hC6, hr.1, hN5, hcb, HB5.out.size⟩)
  clear b5 hC5 hN5 HC4 HN4 HB4 hX4 hA4 hmk hs5 hw2 hcb
  have hc0m : (Cw.start N m).mem.length = m.length := rfl
  generalize Cw.start N m = c0 at *
  have HCM := Lib.hid hc0m
  clear hc0m
  go_wp2_with fail
  go_loopw [11] (fun kv wr => IoRel w N mg cb A ca l ob ga sch c0 T kv wr) (fun kv _ => T - (intOf kv).toNat)
  case atStart => exact ⟨0, z, Nat.zero_le _, rfl, HCS.out, HB5.out⟩
  case round =>
    obtain ⟨i, zi, hi, rfl, hCi, hb⟩ := hrel
    have HCi := Lib.hid hCi
    have HBi := Lib.hid hb
    have hXr := (HX.out.below hb).more hb.size
    clear HCS HB5 hCi hb hX5
    by_cases hlt : i < T
    · have hov := HT2.out i hlt
      have hmod : i % xs.length < xs.length := Nat.mod_lt _ (by omega)
      obtain ⟨xb, xo, x, rfl, hxB, hx, x0⟩ := hXr.at_ hmod
      obtain ⟨k, rfl, hkn⟩ := HXS.out x (List.mem_of_getElem? hx)
      have HGD := Lib.hid ((HSE.out i).trans (HGS.out _ i k hx))
      have hrem0 : ∀ q, i % xs.length = q → ((i : Int).tmod (xs.length : Int)) = (q : Int) := fun q h => by rw [← h]; rfl
      have hlen0 : ((xs.length : Int) == 0) = false := beq_eq_false_iff_ne.2 (by omega)
      clear hx
      generalize hq : i % xs.length = im at *
      have hrem := hrem0 im rfl
      have hmodI : (im : Int) < (xs.length : Int) := by omega
      clear hrem0 hq
      go_wp2_with fail
      refine (isOver_c HCi.out hp N8).mono ?_
      rintro e w6 ⟨rfl, hx6⟩
      rw [hov]
      have x0' := hx6.cell x0
      have HC6 := Lib.hid (HCi.out.ext hx6)
      have HB6 := Lib.hid (HBi.out.trans (hx6.below.mono (by have := HBi.out.size; exact this)))
      have HMLN : Hid (1 ≤ (runC l sch c0 i).mem.length ∧ (runC l sch c0 i).mem.length ≤ 32) := Lib.hid (by have h1 := (HRO.out i).2.2; rw [HCM.out] at h1; omega)
      clear hx6 hov x0
      go_wp2_with fail
      refine (stepOf_c HC6.out hp N8 hkn HMLN.out).mono ?_
      rintro e w9 ⟨rfl, z9, hC9, hz9, hst9⟩
      have HC9 := Lib.hid hC9
      have HB9 := Lib.hid (HB6.out.trans hst9.bel)
      clear hC9 hz9 hst9 x0'
      go_wp2
      go_roundw
      case rel => exact ⟨i + 1, z9, by omega, by go_num, by rw [HGD.out]; exact HC9.out, HB9.out⟩
      case measure => simp [intOf]; omega
    · obtain rfl : i = T := by omega
      have hov := HT1.out
      go_wp2_with fail
      refine (isOver_c HCi.out hp N8).mono ?_
      rintro e w6 ⟨rfl, hx6⟩
      rw [hov]
      have HC6 := Lib.hid (HCi.out.ext hx6)
      have HB6 := Lib.hid (HBi.out.trans (hx6.below.mono (by have := HBi.out.size; exact this)))
      obtain ⟨-, c1⟩ := HC6.out.cells
      clear hx6 hov
      have hme := (HRO.out i).2.2
      rw [HCM.out] at hme
      rw [hme] at c1
      have HME := Lib.hid hme
      clear hme
      go_wp2
      go_ret
      refine ⟨some ⟨zi.mb, 0, none⟩, zi.mc, by rw [HRE.out, HME.out]; rfl, .inr ?_, HB6.out⟩
      rw [HRE.out, HME.out]
      have h1 := HC6.out.cm.mem
      rw [HME.out] at h1
      exact h1


theorem OI.nilc {w : World} {base n c : Nat} {A : Option Addr} {l : List Int} (h : OI w base A n c l) (e : A = none) : c = 0 := by
  subst e
  rcases h.2 with ⟨hv, _⟩ | ⟨g, cap, cur, hv, _⟩
  · injection hv
  · cases hv
theorem there4 {w0 w4 : World} {B n : Nat} {z : Gm} {c : Cw} (h : CM (fun _ => True) w0 B n z c) (hg : w0.grownBy w4 (some z.mb)) (hB : B ≤ w0.heap.size) {k : Nat} (hk : k < n) : w4.there z.lb (k * 4) 4 := by
  obtain ⟨cur, hblk⟩ := h.heap
  obtain ⟨cm, hcm⟩ := OR.heap_ h.mem
  have hlm : z.lb ≠ z.mb := fun e => by rw [e, hcm] at hblk; injection hblk with hblk; injection hblk with _ hblk _; exact absurd hblk (by decide)
  have hblk4 : w4.heap[z.lb]? = some (.cells cur 84 (0, 0)) := (hg.block z.lb h.lt.2 (fun e => hlm (by injection e))).trans hblk
  obtain ⟨e0, e1, e2, e3⟩ := h.cells hk
  intro j hj
  refine ⟨?_, free_of_heap hblk4 _⟩
  have hc : w4.cell? ⟨z.lb, k * 4 + j, none⟩ = w0.cell? ⟨z.lb, k * 4 + j, none⟩ := by rw [cell_of_heap hblk4, cell_of_heap hblk]
  rw [hc]
  have : j = 0 ∨ j = 1 ∨ j = 2 ∨ j = 3 := by omega
  rcases this with rfl | rfl | rfl | rfl
  · rw [Nat.add_zero, e0]; rfl
  · rw [e1]; rfl
  · rw [e2]; rfl
  · rw [e3]; rfl
/-- A crowd of the reference in memory. -/
structure SC (w : World) (B n cb : Nat) (l : List Cd) (z : Gm) (c : Cw) : Prop where
  cm : CM (fun _ => True) w B n z c
  ok : CwOk l n c
  blk : w.heap[cb]? = some (.cells (boxC z n c.mem.length) 67 (0, 0))
  cB : B ≤ cb
  hB : B ≤ w.heap.size
section
variable {w w' : World} {B n cb : Nat} {l : List Cd} {z z' : Gm} {c c' : Cw}
theorem SC.next (h : SC w B n cb l z c) (hc : CM (fun _ => True) w' B n z' c') (hz : SmG z' z) (hs : StC (fun _ => True) B w w') (hk : CwOk l n c') (hm : c'.mem.length = c.mem.length) : SC w' B n cb l z' c' :=
  ⟨hc, hk, by unfold boxC; rw [hz.1, hz.2.1, hz.2.2.1, hz.2.2.2, hm]; exact hs.byt _ _ _ (by decide) (by decide) h.blk, h.cB, Nat.le_trans h.hB hs.size⟩
theorem SC.ext (h : SC w B n cb l z c) (hx : Ext w w') : SC w' B n cb l z c := h.next (h.cm.ext hx) (SmG.refl _) (StC.of_ext hx h.hB) h.ok rfl
theorem SC.sep (h : SC w B n cb l z c) : cb < w.heap.size ∧ z.mb ≠ cb ∧ cb ≠ z.lb := by
  obtain ⟨cur, hblk⟩ := h.cm.heap
  obtain ⟨cm, hcm⟩ := OR.heap_ h.cm.mem
  refine ⟨lt_of_block h.blk, fun e => ?_, fun e => ?_⟩
  · have h1 := h.blk; rw [← e, hcm] at h1; injection h1 with h1; injection h1 with _ h1 _; exact absurd h1 (by decide)
  · have h1 := h.blk; rw [e, hblk] at h1; injection h1 with h1; injection h1 with _ h1 _; exact absurd h1 (by decide)
end

theorem next_mod {i n : Nat} (hn : 1 ≤ n) : (i + 1) % n = (i % n + 1) % n := by rw [Nat.mod_add_mod]

def SoRel (w : World) (n cb : Nat) (l : List Cd) (sch : Nat → List Nat) (len : Nat) (c : Cw) (T : Nat) (g : Nat) (kv : Value) (wr : World) : Prop :=
  ∃ (i : Nat) (z : Gm), i + g = T ∧ kv = .int .i64 (i % len : Nat) ∧ SC wr w.heap.size n cb l z (runC l sch c i) ∧ Below w.heap.size w wr

set_option maxRecDepth 100000 in
set_option maxHeartbeats 16000000 in
theorem sRunOrder_ok (A M X : Option Addr) (ca cm cx : Nat) (l : List Cd) (N : Nat) (m xs : List Int) (w : World) (hA : RdC w w.heap.size A l) (hM : RdI w w.heap.size M m) (hX : RdI w w.heap.size X xs)
    (hmem : memOk m = true) (hor : ordOk xs N = true)
    (N1 : 1 ≤ N) (N8 : N ≤ 8) (x1 : 1 ≤ xs.length) (x40 : xs.length ≤ 40) (hxs : ∀ x ∈ xs, ∃ k : Nat, x = (k : Int) ∧ k < N) (hsch : SchOk N xs.length (orSch xs)) (hp : pv l = true) (hw : wordsOk m) (hm1 : 1 ≤ m.length) (hm32 : m.length ≤ 32) :
    Calls Tryz.prog 32 #[.slice A l.length ca, .int .i64 N, .slice M m.length cm, .slice X xs.length cx] w (GmP w (runE l (orSch xs) (Cw.start N m)).mem) := by
  have HA := Lib.hid hA
  have HX := Lib.hid hX
  have hl40 := (pv_iff.1 hp).1
  have h0 : CwOk l N (Cw.start N m) := CwOk.start hw
  have hn0 := start_nrm (l := l) N1 m
  obtain ⟨T1, T2, T3⟩ := run_T hp N8 hsch h0 hn0
  have HT1 := Lib.hid T1
  have HT2 := Lib.hid T2
  have HRO := Lib.hid (fun i => run_ok' hp N8 hsch h0 hn0 i)
  have HXS := Lib.hid hxs
  have HRE : Hid (runE l (orSch xs) (Cw.start N m) = runC l (orSch xs) (Cw.start N m) (endT l (orSch xs) (Cw.start N m))) := Lib.hid rfl
  have HDO := Lib.hid (fun i => done_over (run_ok' hp N8 hsch h0 hn0 i).1 (run_ok' hp N8 hsch h0 hn0 i).2.1)
  have hc0 : runC l (orSch xs) (Cw.start N m) 0 = Cw.start N m := rfl
  have HC0 := Lib.hid hc0
  have HSP := Lib.hid (fun W a => sProgramValid_c A ca l W a (by omega))
  have HSO := Lib.hid (fun W a => sOrderValid_c X cx xs N W a (by omega))
  have HSM := Lib.hid (fun W a => sMemoryValid_c M cm m W a (by omega))
  rw [hp] at HSP
  rw [hor] at HSO
  rw [hmem] at HSM
  have HNC := Lib.hid (fun W a => sNewCrowd_c M cm m N W a ⟨N1, N8⟩ ⟨hm1, hm32⟩ hw)
  clear hxs hsch h0 hn0 T1 T2 T3 hc0 hw hor hmem
  have HSE := Lib.hid (fun i => show runC l (orSch xs) (Cw.start N m) (i + 1) = stepG l (runC l (orSch xs) (Cw.start N m) i) (orSch xs i) from rfl)
  have HGS := Lib.hid (fun (c : Cw) (i k : Nat) (h : xs[i % xs.length]? = some (k : Int)) => stepG_or (l := l) (c := c) h)
  generalize hTe : endT l (orSch xs) (Cw.start N m) = T at *
  clear hTe
  generalize orSch xs = sch at *
  go_enter Tryz.func32, Tryz.ntmps32
  go_wp2_with fail
  refine (HSP.out w hA).mono ?_
  rintro e w1 ⟨rfl, b1⟩
  have HB1 := Lib.hid b1
  have hX1 := (hX.below b1).more b1.size
  have hM1 := (hM.below b1).more b1.size
  clear b1
  go_wp2_with fail
  refine (HSO.out w1 hX1).mono ?_
  rintro e w1' ⟨rfl, rfl⟩
  go_wp2_with fail
  refine (HSM.out w1 hM1).mono ?_
  rintro e w1' ⟨rfl, rfl⟩
  go_wp2_with fail
  refine (HNC.out w1 hM1).mono ?_
  rintro e w3 ⟨z, rfl, hC, b3⟩
  have hs3 := b3.size
  have hxA := Ext.alloc w3 (.cells #[.slice (some ⟨z.lb, 0, none⟩) N z.lc, .slice (some ⟨z.mb, 0, none⟩) m.length z.mc] 67)
  have hNA := heap_alloc_new w3 (.cells #[.slice (some ⟨z.lb, 0, none⟩) N z.lc, .slice (some ⟨z.mb, 0, none⟩) m.length z.mc] 67)
  have b4 := b3.alloc b3.size (.cells #[.slice (some ⟨z.lb, 0, none⟩) N z.lc, .slice (some ⟨z.mb, 0, none⟩) m.length z.mc] 67)
  have hC4 := hC.ext hxA
  have HB4 := Lib.hid (below_trans HB1.out (Nat.le_refl _) b4)
  have hw1 : w.heap.size ≤ w1.heap.size := HB1.out.size
  have HSC : Hid (SC (w3.alloc (.cells #[.slice (some ⟨z.lb, 0, none⟩) N z.lc, .slice (some ⟨z.mb, 0, none⟩) m.length z.mc] 67)) w.heap.size N w3.heap.size l z (runC l sch (Cw.start N m) 0)) := Lib.hid (by
    rw [HC0.out]
    have hr := HRO.out 0
    rw [HC0.out] at hr
    exact ⟨⟨OR.mono hC4.row hw1, fun k hk => OR.mono (hC4.regs k hk) hw1, fun k hk => OR.mono (hC4.turns k hk) hw1, OR.mono hC4.mem hw1, hC4.rm, hC4.rr, hC4.tm, hC4.tr, hC4.tt, trivial, trivial, fun _ _ => trivial, fun _ _ _ _ => trivial, fun _ _ => trivial⟩, hr.1, hNA, by omega, HB4.out.size⟩)
  clear hxA hNA b3 b4 hC hC4 hM hX hA hs3 hX1 hM1 HB1 hw1
  have hc0m : (Cw.start N m).mem.length = m.length := rfl
  generalize Cw.start N m = c0' at *
  have HCM := Lib.hid hc0m
  clear hc0m
  go_wp2_with fail
  generalize w3.alloc (.cells #[.slice (some ⟨z.lb, 0, none⟩) N z.lc, .slice (some ⟨z.mb, 0, none⟩) m.length z.mc] 67) = w4' at *
  generalize w3.heap.size = cb at *
  go_loopg [10] T (fun g kv wr => SoRel w N cb l sch xs.length c0' T g kv wr)
  case atStart => exact ⟨0, z, Nat.zero_add _, by rw [Nat.zero_mod]; rfl, HSC.out, HB4.out⟩
  case round =>
    obtain ⟨i, zi, hi, rfl, hCi, hb⟩ := hrel
    have HCi := Lib.hid hCi
    have HBr := Lib.hid hb
    have hBW := hCi.hB
    clear HSC HB4 hb
    have hme0 := (HRO.out i).2.2
    rw [HCM.out] at hme0
    have HME := Lib.hid hme0
    have c0 : wr.cell? ⟨cb, 0, none⟩ = some (.slice (some ⟨zi.lb, 0, none⟩) N zi.lc) := cell_of_heap hCi.blk 0
    have c1 : wr.cell? ⟨cb, 1, none⟩ = some (.slice (some ⟨zi.mb, 0, none⟩) m.length zi.mc) := (cell_of_heap hCi.blk 1).trans (by rw [hme0]; rfl)
    have hLD := Lib.hid (sl7Done_c (ca := ca) (A := A) hCi.cm hCi.ok N8)
    unfold cwV at hLD
    rw [hme0, HDO.out i] at hLD
    clear hCi hme0
    by_cases hlt : i < T
    · have hov := HT2.out i hlt
      rw [hov] at hLD
      have hmod : i % xs.length < xs.length := Nat.mod_lt _ (by omega)
      have hXr := (HX.out.below HBr.out)
      obtain ⟨xb, xo, x, rfl, hxB, hx, x0⟩ := hXr.at_ hmod
      obtain ⟨k, rfl, hkn⟩ := HXS.out x (List.mem_of_getElem? hx)
      have HGD := Lib.hid ((HSE.out i).trans (HGS.out _ i k hx))
      have HNX := Lib.hid (next_mod (i := i) (n := xs.length) (by omega))
      have hlen0 : ((xs.length : Int) == 0) = false := beq_eq_false_iff_ne.2 (by omega)
      have hkI : (k : Int) < (N : Int) := by omega
      clear hx hXr
      generalize hq : i % xs.length = im at *
      have hmodI : (im : Int) < (xs.length : Int) := by omega
      clear hq
      go_wp2_with fail
      refine (hLD.out).mono ?_
      rintro e w6 ⟨rfl, hx6⟩
      have HC6 := Lib.hid (HCi.out.ext hx6)
      have HB6 := Lib.hid (HBr.out.trans (hx6.below.mono (by have := HBr.out.size; exact this)))
      replace c0 := hx6.cell c0
      replace c1 := hx6.cell c1
      replace x0 := hx6.cell x0
      have hBW6 := HC6.out.hB
      obtain ⟨e0, e1, e2, e3⟩ := HC6.out.cm.cells hkn
      obtain ⟨hcbs, hcbm, hcbl⟩ := HC6.out.sep
      have HOK := Lib.hid HC6.out.ok
      have HCr := Lib.hid HC6.out.cm
      clear hx6 hLD HCi HBr hBW
      have hBW := hBW6
      have HBr := HB6
      have HMLN : Hid (1 ≤ (runC l sch c0' i).mem.length ∧ (runC l sch c0' i).mem.length ≤ 32) := Lib.hid (by rw [HME.out]; exact ⟨hm1, hm32⟩)
      generalize hce : runC l sch c0' i = ci at *
      have hpl := ((HOK.out.at_ hkn).2.pos_le hp).1
      cases hwt : (ci.lane k).waits with
      | true =>
        rw [hwt] at e3
        have HNG := Lib.hid (show goesL l (ci.lane k) = false by unfold goesL; rw [hwt]; rfl)
        have hsi : stepIf l ci k = ci := by unfold stepIf; rw [HNG.out]; rfl
        rw [hsi] at HGD
        have HSC5 := HC6
        have HC5 := HCr
        have HOK5 := HOK
        have hBW5 := hBW
        have HB5 := HB6
        clear hsi
        have hLF := Lib.hid (sl7Free_c (ca := ca) (A := A) HC5.out HOK5.out N8 hBW5)
        unfold cwV at hLF
        rw [HME.out] at hLF
        go_wp2_with fail
        refine (hLF.out).mono ?_
        rintro e w7 ⟨rfl, hC7, hst7⟩
        have HS7 := Lib.hid (HSC5.out.next hC7 (SmG.refl _) hst7 (HOK5.out.passC).1 (by rw [(HOK5.out.passC).2.2]))
        have HB7 := Lib.hid (HB5.out.trans hst7.bel)
        clear hC7 hst7
        go_wp2
        go_roundg (T - (i + 1))
        case measure => omega
        case rel => exact ⟨i + 1, _, by omega, by rw [HNX.out]; go_num, by rw [HGD.out]; exact HS7.out, HB7.out⟩
      | false =>
        rw [hwt] at e3
        by_cases hps : (ci.lane k).pos < l.length
        · have hpsI : ((ci.lane k).pos : Int) < (l.length : Int) := by omega
          have HNG := Lib.hid (show goesL l (ci.lane k) = true by unfold goesL; rw [hwt]; simp [hps])
          have HSI := Lib.hid (show stepIf l ci k = stepAt l ci k by unfold stepIf; rw [HNG.out]; rfl)
          go_upto_region 9 with fail
          have hXd := Ext.drew w6
          have hCd := HCr.out.ext hXd
          have h4 := ((HOK.out.at_ hkn).2).four
          have hAd := (HA.out.below (HBr.out.trans (hXd.below.mono hBW))).more (Nat.le_trans HBr.out.size hXd.size)
          have hRd : RdI w6.drew w6.drew.heap.size (some ⟨zi.R k, 0, none⟩) (ci.lane k).regs := by
            have h := OR.reads (hCd.regs k hkn)
            unfold RdI
            rw [h4]
            exact h
          have hTd : RdI w6.drew w6.drew.heap.size (adr (zi.T k)) (ci.lane k).turns := OR.reads (hCd.turns k hkn)
          have hml := HMLN.out
          have HL6 := Lib.hid (l6Step_c A (some ⟨zi.R k, 0, none⟩) (adr (zi.T k)) ca (zi.RC k) (zi.TC k) l (ci.lane k) k w.heap.size zi.mb m.length zi.mc ci.mem w6.drew hAd hRd hTd (OI.nilc (hCd.turns k hkn)) (by have h := hCd.mem; rw [HME.out] at h; exact h) (by exact hBW) ⟨hm1, hm32⟩ ((HOK.out).words) hp ((HOK.out.at_ hkn).2) hwt hps (by omega))
          have HCd := Lib.hid hCd
          clear hCd hAd hRd hTd hXd h4 hml
          unfold lnV at HL6
          rw [hwt] at HL6
          go_wp2_with fail
          refine wp_region_held_drew (S := fun w' => w'.cell? ⟨cb, 0, none⟩ = some (.slice (some ⟨zi.lb, 0, none⟩) N zi.lc) ∧ w'.cell? ⟨cb, 1, none⟩ = some (.slice (some ⟨zi.mb, 0, none⟩) m.length zi.mc)) (by kernel_rfl) ⟨c0, c1⟩ (fun hHeld => ?_)
          refine wpAnyH_take (i := 0) (v := ?_) rfl (by decide +kernel) (by decide +kernel) (by decide +kernel) (fun _ _ _ h => h) (Or.inl ⟨by rfl, ?_⟩) (by assumption) ?_
          rotate_left
          · (intro w hSw; (try dsimp only at hSw); obtain ⟨s0, s1⟩ := hSw; (try dsimp only [List.getElem_toArray, List.getElem_cons_succ, List.getElem_cons_zero]); go_simp)
            try with_reducible rfl
          try simp only [List.getElem_toArray, List.getElem_cons_succ, List.getElem_cons_zero, Act.put, List.setIfInBounds_toArray, List.set_cons_zero, List.set_cons_succ]
          refine wpAnyH_take (i := 1) (v := ?_) rfl (by decide +kernel) (by decide +kernel) (by decide +kernel) (fun _ _ _ h => h) (Or.inl ⟨by rfl, ?_⟩) (by assumption) ?_
          rotate_left
          · (intro w hSw; (try dsimp only at hSw); obtain ⟨s0, s1⟩ := hSw; (try dsimp only [List.getElem_toArray, List.getElem_cons_succ, List.getElem_cons_zero]); go_simp)
            try with_reducible rfl
          try simp only [List.getElem_toArray, List.getElem_cons_succ, List.getElem_cons_zero, Act.put, List.setIfInBounds_toArray, List.set_cons_zero, List.set_cons_succ]
          refine wpAnyH_take (i := 2) (v := ?_) rfl (by decide +kernel) (by decide +kernel) (by decide +kernel) (fun _ _ _ h => h) (Or.inl ⟨by rfl, ?_⟩) (by assumption) ?_
          rotate_left
          · (intro w hSw; (try dsimp only at hSw); obtain ⟨s0, s1⟩ := hSw; (try dsimp only [List.getElem_toArray, List.getElem_cons_succ, List.getElem_cons_zero]); go_simp)
            try with_reducible rfl
          try simp only [List.getElem_toArray, List.getElem_cons_succ, List.getElem_cons_zero, Act.put, List.setIfInBounds_toArray, List.set_cons_zero, List.set_cons_succ]
          refine wpAnyH_take (i := 3) (v := ?_) rfl (by decide +kernel) (by decide +kernel) (by decide +kernel) (fun _ _ _ h => h) (Or.inl ⟨by rfl, ?_⟩) (by assumption) ?_
          rotate_left
          · (intro w hSw; (try dsimp only at hSw); obtain ⟨s0, s1⟩ := hSw; (try dsimp only [List.getElem_toArray, List.getElem_cons_succ, List.getElem_cons_zero]); go_simp)
            try with_reducible rfl
          try simp only [List.getElem_toArray, List.getElem_cons_succ, List.getElem_cons_zero, Act.put, List.setIfInBounds_toArray, List.set_cons_zero, List.set_cons_succ]
          refine wpAnyH_take (i := 4) (v := ?_) rfl (by decide +kernel) (by decide +kernel) (by decide +kernel) (fun _ _ _ h => h) (Or.inl ⟨by rfl, ?_⟩) (by assumption) ?_
          rotate_left
          · (intro w hSw; (try dsimp only at hSw); obtain ⟨s0, s1⟩ := hSw; (try dsimp only [List.getElem_toArray, List.getElem_cons_succ, List.getElem_cons_zero]); go_simp)
            try with_reducible rfl
          try simp only [List.getElem_toArray, List.getElem_cons_succ, List.getElem_cons_zero, Act.put, List.setIfInBounds_toArray, List.set_cons_zero, List.set_cons_succ]
          refine wpAnyH_take (i := 5) (v := ?_) rfl (by decide +kernel) (by decide +kernel) (by decide +kernel) (fun _ _ _ h => h) (Or.inl ⟨by rfl, ?_⟩) (by assumption) ?_
          rotate_left
          · (intro w hSw; (try dsimp only at hSw); obtain ⟨s0, s1⟩ := hSw; (try dsimp only [List.getElem_toArray, List.getElem_cons_succ, List.getElem_cons_zero]); go_simp)
            try with_reducible rfl
          try simp only [List.getElem_toArray, List.getElem_cons_succ, List.getElem_cons_zero, Act.put, List.setIfInBounds_toArray, List.set_cons_zero, List.set_cons_succ]
          refine wpAnyH_take (i := 6) (v := ?_) rfl (by decide +kernel) (by decide +kernel) (by decide +kernel) (fun _ _ _ h => h) (Or.inl ⟨by rfl, ?_⟩) (by assumption) ?_
          rotate_left
          · (intro w hSw; (try dsimp only at hSw); obtain ⟨s0, s1⟩ := hSw; (try dsimp only [List.getElem_toArray, List.getElem_cons_succ, List.getElem_cons_zero]); go_simp)
            try with_reducible rfl
          try simp only [List.getElem_toArray, List.getElem_cons_succ, List.getElem_cons_zero, Act.put, List.setIfInBounds_toArray, List.set_cons_zero, List.set_cons_succ]
          refine wpAnyH_take (i := 8) (v := ?_) rfl (by decide +kernel) (by decide +kernel) (by decide +kernel) (fun _ _ _ h => h) (Or.inl ⟨by rfl, ?_⟩) (by assumption) ?_
          rotate_left
          · (intro w hSw; (try dsimp only at hSw); obtain ⟨s0, s1⟩ := hSw; (try dsimp only [List.getElem_toArray, List.getElem_cons_succ, List.getElem_cons_zero]); go_simp)
            try with_reducible rfl
          try simp only [List.getElem_toArray, List.getElem_cons_succ, List.getElem_cons_zero, Act.put, List.setIfInBounds_toArray, List.set_cons_zero, List.set_cons_succ]
          refine wpAnyH_take (i := 9) (v := ?_) rfl (by decide +kernel) (by decide +kernel) (by decide +kernel) (fun _ _ _ h => h) (Or.inl ⟨by rfl, ?_⟩) (by assumption) ?_
          rotate_left
          · (intro w hSw; (try dsimp only at hSw); obtain ⟨s0, s1⟩ := hSw; (try dsimp only [List.getElem_toArray, List.getElem_cons_succ, List.getElem_cons_zero]); go_simp)
            try with_reducible rfl
          try simp only [List.getElem_toArray, List.getElem_cons_succ, List.getElem_cons_zero, Act.put, List.setIfInBounds_toArray, List.set_cons_zero, List.set_cons_succ]
          refine wpAnyH_take (i := 10) (v := ?_) rfl (by decide +kernel) (by decide +kernel) (by decide +kernel) (fun _ _ _ h => h) (Or.inl ⟨by rfl, ?_⟩) (by assumption) ?_
          rotate_left
          · (intro w hSw; (try dsimp only at hSw); obtain ⟨s0, s1⟩ := hSw; (try dsimp only [List.getElem_toArray, List.getElem_cons_succ, List.getElem_cons_zero]); go_simp)
            try with_reducible rfl
          try simp only [List.getElem_toArray, List.getElem_cons_succ, List.getElem_cons_zero, Act.put, List.setIfInBounds_toArray, List.set_cons_zero, List.set_cons_succ]
          refine wpAnyH_take (i := 11) (v := ?_) rfl (by decide +kernel) (by decide +kernel) (by decide +kernel) (fun _ _ _ h => h) (Or.inl ⟨by rfl, ?_⟩) (by assumption) ?_
          rotate_left
          · (intro w hSw; (try dsimp only at hSw); obtain ⟨s0, s1⟩ := hSw; (try dsimp only [List.getElem_toArray, List.getElem_cons_succ, List.getElem_cons_zero]); go_simp)
            try with_reducible rfl
          try simp only [List.getElem_toArray, List.getElem_cons_succ, List.getElem_cons_zero, Act.put, List.setIfInBounds_toArray, List.set_cons_zero, List.set_cons_succ]
          refine wpAnyH_ready (rs := [7]) (by kernel_rfl) (by simp) ?_
          refine AllReadyH.cons rfl (fun K hK => ?_) AllReadyH.nil
          try dsimp only [List.getElem_toArray, List.getElem_cons_succ, List.getElem_cons_zero]
          go_simp
          refine hK.out _ _ ?_ (fun hHeld2 => ?_)
          · exact hHeld
          clear hK K
          try simp only [List.getElem_toArray, List.getElem_cons_succ, List.getElem_cons_zero, Act.put, List.setIfInBounds_toArray, List.set_cons_zero, List.set_cons_succ]
          refine wpAnyH_ready (rs := [12]) (by kernel_rfl) (by simp) ?_
          refine AllReadyH.cons rfl (fun K hK => ?_) AllReadyH.nil
          try dsimp only [List.getElem_toArray, List.getElem_cons_succ, List.getElem_cons_zero]
          go_simp
          go_at_call 65
          refine (HL6.out).mono ?_
          rintro e w4 ⟨r, rc, t, tc, rfl, hL4, hM4, hg4⟩
          unfold lnV
          have hmb4 := (OR.base_le HCd.out.mem)
          have k0 := (cell_heap_eq (hg4.block cb (by exact hcbs) (fun e => hcbm (by injection e with e; exact e.symm))) 0).trans c0
          have k1 := (cell_heap_eq (hg4.block cb (by exact hcbs) (fun e => hcbm (by injection e with e; exact e.symm))) 1).trans c1
          try dsimp only
          refine hK.out _ _ ?_ (fun hHeld3 => ?_)
          · exact ⟨k0, k1⟩
          clear hK K hHeld2
          try simp only [List.getElem_toArray, List.getElem_cons_succ, List.getElem_cons_zero, Act.put, List.setIfInBounds_toArray, List.set_cons_zero, List.set_cons_succ]
          refine wpAnyH_ready (rs := [13]) (by kernel_rfl) (by simp) ?_
          refine AllReadyH.cons rfl (fun K hK => ?_) AllReadyH.nil
          try dsimp only [List.getElem_toArray, List.getElem_cons_succ, List.getElem_cons_zero]
          go_simp
          refine hK.out _ _ ?_ (fun hHeld4 => ?_)
          · exact hHeld3
          clear hK K hHeld3
          try simp only [List.getElem_toArray, List.getElem_cons_succ, List.getElem_cons_zero, Act.put, List.setIfInBounds_toArray, List.set_cons_zero, List.set_cons_succ]
          refine wpAnyH_ready (rs := [14]) (by kernel_rfl) (by simp) ?_
          refine AllReadyH.cons rfl (fun K hK => ?_) AllReadyH.nil
          have hnew := CM.lane_new HCd.out (by exact hBW) hkn HOK.out.len hL4 (by rw [HME.out]; exact hM4) ((simp1_len _ _ _ _).2) hg4
          have hth : w4.there zi.lb (k * 4) 4 := there4 HCd.out hg4 (by exact hBW) hkn
          refine (if_pos ?hwS).mpr ?_
          case hwS => rfl
          refine wp_store_mid _ _ _ rfl zi.lb (k * 4) _ rfl rfl hth (by kernel_rfl) (by simp [Value.oneCell']) ?_
          refine hK.out _ _ ?_ (fun hHeld5 => ?_)
          · exact ⟨(World.cell?_setCells_out _ _ _ _ _ (fun e _ => absurd e hcbl)).trans hHeld4.1, (World.cell?_setCells_out _ _ _ _ _ (fun e _ => absurd e hcbl)).trans hHeld4.2⟩
          clear hK K hHeld4 hHeld
          refine wpAnyH_done (by kernel_rfl) ?_ _
          have HC5 := Lib.hid (show CM (fun _ => True) _ w.heap.size N _ (stepAt l ci k) from hnew.1)
          have HST5 := Lib.hid hnew.2
          clear hnew hth hL4 hM4 hg4 k0 k1 hmb4
          have hok5 := stepIf_ok hp N8 HOK.out hkn
          rw [HSI.out] at hok5
          have HOK5 := Lib.hid hok5.1
          have HME5 := Lib.hid (hok5.2.trans HME.out)
          have HSC5 := Lib.hid ((HC6.out.ext (Ext.drew w6)).next HC5.out ⟨rfl, rfl, rfl, rfl⟩ HST5.out hok5.1 hok5.2)
          have HB5 := Lib.hid ((HB6.out.trans ((Ext.drew w6).below.mono HB6.out.size)).trans HST5.out.bel)
          have hBW5 := HSC5.out.hB
          (try dsimp only at hHeld5)
          have c0 := hHeld5.1
          have c1 := hHeld5.2
          rw [HSI.out] at HGD
          clear hok5 hHeld5 e0 e1 e2 e3 x0 HL6
          generalize w4.setCells _ _ _ = w5 at *
          generalize hz5 : zi.put k r rc t tc = z5 at *
          have hz5' : SmG z5 zi := by rw [← hz5]; exact ⟨rfl, rfl, rfl, rfl⟩
          rw [← hz5'.1, ← hz5'.2.1] at c0
          rw [← hz5'.2.2.1, ← hz5'.2.2.2] at c1
          clear hz5 hz5'
          have hLF := Lib.hid (sl7Free_c (ca := ca) (A := A) HC5.out HOK5.out N8 hBW5)
          unfold cwV at hLF
          rw [HME5.out] at hLF
          go_wp2_with fail
          refine (hLF.out).mono ?_
          rintro e w7 ⟨rfl, hC7, hst7⟩
          have HS7 := Lib.hid (HSC5.out.next hC7 (SmG.refl _) hst7 (HOK5.out.passC).1 (by rw [(HOK5.out.passC).2.2]))
          have HB7 := Lib.hid (HB5.out.trans hst7.bel)
          clear hC7 hst7
          go_wp2
          go_roundg (T - (i + 1))
          case measure => omega
          case rel => exact ⟨i + 1, _, by omega, by rw [HNX.out]; go_num, by rw [HGD.out]; exact HS7.out, HB7.out⟩
        · have hpsI : ¬ (((ci.lane k).pos : Int) < (l.length : Int)) := by omega
          have HNG := Lib.hid (show goesL l (ci.lane k) = false by unfold goesL; simp; omega)
          have hsi : stepIf l ci k = ci := by unfold stepIf; rw [HNG.out]; rfl
          rw [hsi] at HGD
          have HSC5 := HC6
          have HC5 := HCr
          have HOK5 := HOK
          have hBW5 := hBW
          have HB5 := HB6
          clear hsi
          have hLF := Lib.hid (sl7Free_c (ca := ca) (A := A) HC5.out HOK5.out N8 hBW5)
          unfold cwV at hLF
          rw [HME.out] at hLF
          go_wp2_with fail
          refine (hLF.out).mono ?_
          rintro e w7 ⟨rfl, hC7, hst7⟩
          have HS7 := Lib.hid (HSC5.out.next hC7 (SmG.refl _) hst7 (HOK5.out.passC).1 (by rw [(HOK5.out.passC).2.2]))
          have HB7 := Lib.hid (HB5.out.trans hst7.bel)
          clear hC7 hst7
          go_wp2
          go_roundg (T - (i + 1))
          case measure => omega
          case rel => exact ⟨i + 1, _, by omega, by rw [HNX.out]; go_num, by rw [HGD.out]; exact HS7.out, HB7.out⟩
    · obtain rfl : i = T := by omega
      have hov := HT1.out
      rw [hov] at hLD
      have hCMi := HCi.out.cm.mem
      go_wp2_with fail
      refine (hLD.out).mono ?_
      rintro e w6 ⟨rfl, hx6⟩
      have HC6 := Lib.hid (HCi.out.ext hx6)
      have HB6 := Lib.hid (HBr.out.trans (hx6.below.mono (by have := HBr.out.size; exact this)))
      replace c0 := hx6.cell c0
      replace c1 := hx6.cell c1
      clear hx6 hLD hCMi
      have hM6 : OI w6 w.heap.size (some ⟨zi.mb, 0, none⟩) m.length zi.mc (runC l sch c0' i).mem := by have h := HC6.out.cm.mem; rw [HME.out] at h; exact h
      have hrd : RdI w6 w6.heap.size (some ⟨zi.mb, 0, none⟩) (runC l sch c0' i).mem := by
        have h := OR.reads HC6.out.cm.mem
        exact h
      have HMM := Lib.hid (hrd.below ((Below.refl _ _).alloc (Nat.le_refl _) (.cells #[] 3)))
      have ho0 := Lib.hid (OI.empty_ w6 w6.heap.size (Nat.le_refl _))
      have c1' : (w6.alloc (.cells #[] 3)).cell? ⟨cb, 1, none⟩ = some (.slice (some ⟨zi.mb, 0, none⟩) m.length zi.mc) := (Ext.alloc w6 _).cell c1
      clear hM6 hrd
      unfold RdI at HMM
      rw [HME.out] at HMM
      go_wp2_with (at_builtin; refine app_rd 24 3 _ 1 8 Tryz.underlying24 infoInt rfl (by decide) (by decide) rfl _ _ rfl w6.heap.size _ 0 0 _ ho0.out rfl w6.heap.size ⟨zi.mb, 0, none⟩ m.length zi.mc _ rfl HMM.out (ints_one _) ?hn ?hb ?_)
      case hn => omega
      case hb => simp
      intro A' c' w8 ho8 hg8
      have hb8 := below_gr ((Below.refl w6.heap.size w6).alloc (Nat.le_refl _) (.cells #[] 3)) (by simp) ho0.out (Nat.le_refl _) hg8
      have HB8 := Lib.hid (below_trans HB6.out (Nat.le_refl _) hb8)
      have HO8 := Lib.hid (show OI w8 w.heap.size A' m.length c' (runC l sch c0' i).mem from OR.mono (base := w6.heap.size) (by simpa using ho8) HB6.out.size)
      clear HMM ho0 ho8 hg8 hb8 c1'
      go_wp2
      go_ret
      refine ⟨A', c', by rw [HRE.out, HME.out]; simp, .inr ?_, HB8.out⟩
      rw [HRE.out, HME.out]
      exact HO8.out

end Go.Proofs.YtelbfeidpcojmaaGreat
