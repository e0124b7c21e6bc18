/- The reference's MemoryValid, l8Ok, LockTrace, PlaceCounts. -/
import Derived.Test.YtfgbbajkdpideaaLock4
import Derived.Test.YtfgbbajkdpideaaLock0
import Derived.StillTailTactics
namespace Go.Proofs.Ytfgbbajkdpideaa
open Go.RowKit
set_option linter.unusedVariables false
set_option linter.unusedSimpArgs false

set_option maxRecDepth 100000 in
set_option maxHeartbeats 4000000 in
theorem sMemoryValid_c (A : Option Addr) (c : Nat) (m : List Int) (w : World) (hA : RdI w w.heap.size A m) (hl : m.length ≤ 1000000000) :
    Calls Try.prog 32 #[.slice A m.length c] w fun e w' => e = .returned (.bool (memOk m)) ∧ w = w' := by
  go_enter Try.func32, Try.ntmps32
  go_wp2
  go_loopw [3] (fun i wr => ∃ k : Nat, k ≤ m.length ∧ i = .int .i64 k ∧ Hid (∀ j x, j < k → m[j]? = some x → inR x 0 255 = true) ∧ w = wr) (fun i _ => m.length - (intOf i).toNat)
  case atStart => exact ⟨0, Nat.zero_le _, rfl, fun j x hj => by omega, rfl⟩
  case round =>
    obtain ⟨k, hk, rfl, HP, rfl⟩ := hrel
    by_cases hlt : k < m.length
    · obtain ⟨b, off, x, rfl, hbB, hx, c0⟩ := hA.at_ hlt
      have HX := Lib.hid hx
      clear hx
      go_wp2_with fail
      refine (l2Word_c x w).mono ?_
      rintro e w1 ⟨rfl, rfl⟩
      cases hv : inR x 0 255 with
      | false =>
        have hm : memOk m = false := by
          have : m.all (fun v => inR v 0 255) = false := List.all_eq_false.2 ⟨x, List.mem_of_getElem? HX.out, by simp [hv]⟩
          simp [memOk, this]
        go_wp2
        go_ret
        exact ⟨retb hm.symm, rfl⟩
      | true =>
        have HV := Lib.hid hv
        clear hv
        go_wp2
        go_roundw
        case rel =>
          refine ⟨k + 1, by omega, by go_num, fun j y hj hy => ?_, trivial⟩
          by_cases e : j = k
          · subst e
            rw [HX.out] at hy
            injection hy with hy
            subst hy
            exact HV.out
          · exact HP.out j y (by omega) hy
        case measure => simp [intOf]; omega
    · obtain rfl : k = m.length := by omega
      have hm : memOk m = inR m.length 1 32 := by
        have : m.all (fun v => inR v 0 255) = true := List.all_eq_true.2 fun x hx => by
          obtain ⟨j, hj, rfl⟩ := List.mem_iff_getElem.1 hx
          exact HP.out j _ hj (List.getElem?_eq_getElem hj)
        simp [memOk, this]
      go_wp2_with fail
      refine (l1In_c m.length 1 32 w).mono ?_
      rintro e w1 ⟨rfl, rfl⟩
      go_wp2
      go_ret
      exact ⟨retb hm.symm, rfl⟩

set_option maxRecDepth 100000 in
set_option maxHeartbeats 4000000 in
theorem sl8Ok_c (A Am : Option Addr) (c cm : Nat) (l : List Cd) (n : Int) (m : List Int) (w : World) (hA : RdC w w.heap.size A l) (hM : RdI w w.heap.size Am m) (hl : l.length ≤ 1000000000) (hml : m.length ≤ 1000000000) :
    Calls Try.prog 30 #[.slice A l.length c, .int .i64 n, .slice Am m.length cm] w fun e w' => e = .returned (.bool (lockOk l n m)) ∧ Below w.heap.size w w' := by
  go_enter Try.func30, Try.ntmps30
  go_wp2_with fail
  refine (sProgramValid_c A c l w hA hl).mono ?_
  rintro e w1 ⟨rfl, hb1⟩
  cases hp : pv l with
  | false =>
    go_wp2
    go_ret
    exact ⟨retb (by simp [lockOk, hp]), hb1⟩
  | true =>
    go_wp2_with fail
    refine (l1In_c n 1 8 w1).mono ?_
    rintro e w2 ⟨rfl, rfl⟩
    cases hin : inR n 1 8 with
    | false =>
      go_wp2
      go_ret
      exact ⟨retb (by simp [lockOk, hin]), hb1⟩
    | true =>
      go_wp2_with fail
      refine (sMemoryValid_c Am cm m w1 ((hM.below hb1).more hb1.size) hml).mono ?_
      rintro e w2 ⟨rfl, rfl⟩
      go_wp2
      go_ret
      exact ⟨retb (by simp [lockOk, hp, hin]), hb1⟩

/-- A slice of steps is returned. -/
def RetT (w : World) (bs : List (Nat × Nat)) (e : Ending) (w' : World) : Prop :=
  ∃ A c, e = .returned (.slice A bs.length c) ∧ OR w' w.heap.size 56 2 A bs.length c (beatCells bs) ∧ Below w.heap.size w w'

set_option maxRecDepth 100000 in
set_option maxHeartbeats 4000000 in
theorem sLockTrace_c (A Am : Option Addr) (c cm : Nat) (l : List Cd) (n : Int) (m : List Int) (w : World) (hA : RdC w w.heap.size A l) (hM : RdI w w.heap.size Am m) (hl : l.length ≤ 1000000000) (hml : m.length ≤ 1000000000) :
    Calls Try.prog 31 #[.slice A l.length c, .int .i64 n, .slice Am m.length cm] w (RetT w (traceOf l n m)) := by
  cases hok : lockOk l n m with
  | false =>
    have HT := Lib.hid (show traceOf l n m = [] by simp [traceOf, hok])
    go_enter Try.func31, Try.ntmps31
    go_wp2_with fail
    refine (sl8Ok_c A Am c cm l n m w hA hM hl hml).mono ?_
    rintro e w1 ⟨rfl, hb1⟩
    rw [hok]
    go_wp2
    go_ret
    rw [HT.out]
    exact ⟨_, 0, rfl, OR.lit w1 w.heap.size 56 2 0 #[] hb1.size (by omega) rfl, hb1.alloc hb1.size _⟩
  | true =>
    have h' := hok
    simp only [lockOk, Bool.and_eq_true] at h'
    obtain ⟨hp, hin, hmem⟩ := h'
    obtain ⟨k, rfl⟩ : ∃ k : Nat, n = (k : Int) := ⟨n.toNat, by have := (inR_iff.1 hin).1; omega⟩
    have hk1 : 1 ≤ k := by have := (inR_iff.1 hin).1; omega
    have hk8 : k ≤ 8 := by have := (inR_iff.1 hin).2; omega
    have HT := Lib.hid (show traceOf l k m = (runT (treeOf l) k m).beats by simp [traceOf, hok, lockS])
    obtain ⟨hm0, hm1, hm2⟩ := memOk_iff.1 hmem
    obtain ⟨ht1, ht2⟩ := treeOf_spec hp
    have h40 := (pv_iff.1 hp).1
    have HT1 := Lib.hid ht1
    have HT2 := Lib.hid ht2
    clear ht1 ht2
    go_enter Try.func31, Try.ntmps31
    go_wp2_with fail
    refine (sl8Ok_c A Am c cm l k m w hA hM hl hml).mono ?_
    rintro e w1 ⟨rfl, hb1⟩
    rw [hok]
    have HH := Lib.hid (And.intro hok (And.intro hp (And.intro hin hmem)))
    clear hok hp hin hmem
    go_wp2_with fail
    refine (l8All_c A Am c cm l k m (treeOf l) w1 ((hA.below hb1).more hb1.size) ((hM.below hb1).more hb1.size) HT1.out HT2.out.symm (pv_all HH.out.2.1) h40 hk1 hk8 hm0 hm1 hm2).mono ?_
    rintro e w2 ⟨z, T, tc, rfl, hzB, hzl, hzn, hS, hb2⟩
    obtain ⟨-, -, -, -, c4, -, -⟩ := hS.cells
    have htr := hS.trc
    rw [hzB] at htr
    have hb3 := below_trans hb1 (Nat.le_refl _) hb2
    clear hS
    go_wp2
    go_ret
    rw [HT.out]
    exact ⟨T, tc, rfl, htr.mono hb1.size, hb3⟩

theorem beatCells_get : ∀ (bs : List (Nat × Nat)) (k : Nat) (q : Nat × Nat), bs[k]? = some q → (beatCells bs)[k * 2]? = some (.int .i64 q.1) ∧ (beatCells bs)[k * 2 + 1]? = some (.int .i64 q.2)
  | [], k, q, h => by simp at h
  | p :: bs, 0, q, h => by
    simp at h
    subst h
    exact ⟨rfl, rfl⟩
  | p :: bs, k + 1, q, h => by
    have ih := beatCells_get bs k q (by simpa using h)
    have e : beatCells (p :: bs) = [.int .i64 p.1, .int .i64 p.2] ++ beatCells bs := rfl
    rw [e, show (k + 1) * 2 = 2 + k * 2 by omega, List.getElem?_append_right (by simp), List.getElem?_append_right (by simp; omega)]
    refine ⟨?_, ?_⟩
    · rw [← ih.1]; congr 1; simp
    · rw [← ih.2]; congr 1; simp; omega
theorem countRow_zero (n : Nat) : (zeroRow (.int .i64 0) n).toList = (countRow [] n).map (Value.int .i64) := by
  rw [countRow_nil]
  simp only [List.map_replicate]
  exact toList_madeCells_one _ _

def PCRel (w : World) (l : List Cd) (bs : List (Nat × Nat)) (ob : Nat) (T : Option Addr) (tc : Nat) (kv : Value) (wr : World) : Prop :=
  ∃ k : Nat, k ≤ bs.length ∧ kv = .int .i64 k ∧ OI wr w.heap.size (some ⟨ob, 0, none⟩) l.length l.length (countRow (bs.take k) l.length) ∧ OR wr w.heap.size 56 2 T bs.length tc (beatCells bs) ∧ Below w.heap.size w wr

set_option maxRecDepth 100000 in
set_option maxHeartbeats 4000000 in
theorem sPlaceCounts_c (A Am : Option Addr) (c cm : Nat) (l : List Cd) (n : Int) (m : List Int) (w : World) (hA : RdC w w.heap.size A l) (hM : RdI w w.heap.size Am m) (hl : l.length ≤ 1000000000) (hml : m.length ≤ 1000000000) :
    Calls Try.prog 15 #[.slice A l.length c, .int .i64 n, .slice Am m.length cm] w (RetI w (countsL l n m)) := by
  cases hok : lockOk l n m with
  | false =>
    have HT := Lib.hid (show countsL l n m = [] by simp [countsL, hok])
    go_enter Try.func15, Try.ntmps15
    go_wp2_with fail
    refine (sl8Ok_c A Am c cm l n m w hA hM hl hml).mono ?_
    rintro e w1 ⟨rfl, hb1⟩
    rw [hok]
    go_wp2
    go_ret
    rw [HT.out]
    exact RetI.of (OI.empty_ w1 _ hb1.size) (hb1.alloc hb1.size _)
  | true =>
    have HT := Lib.hid (show countsL l n m = countRow (traceOf l n m) l.length by simp [countsL, hok])
    have hin := Lib.hid (trace_in (l := l) (n := n) (m := m))
    have hlen := traceOf_len l n m
    have hmk := make_int l.length (by omega)
    go_enter Try.func15, Try.ntmps15
    go_wp2_with fail
    refine (sl8Ok_c A Am c cm l n m w hA hM hl hml).mono ?_
    rintro e w1 ⟨rfl, hb1⟩
    rw [hok]
    clear hok
    go_wp2_with fail
    have ho1 : OI (w1.alloc (.cells (zeroRow (.int .i64 0) l.length) 3)) w.heap.size (some ⟨w1.heap.size, 0, none⟩) l.length l.length (countRow [] l.length) := by
      have := OR.lit w1 w.heap.size 3 1 l.length (zeroRow (.int .i64 0) l.length) hb1.size (by omega) (by rw [zeroRow_size]; omega)
      rw [countRow_zero] at this
      exact this
    have hb2 := hb1.alloc hb1.size (.cells (zeroRow (.int .i64 0) l.length) 3)
    clear hmk
    generalize w1.alloc (.cells (zeroRow (.int .i64 0) l.length) 3) = w2 at *
    generalize w1.heap.size = ob at *
    refine (sLockTrace_c A Am c cm l n m w2 ((hA.below hb2).more hb2.size) ((hM.below hb2).more hb2.size) hl hml).mono ?_
    rintro e w3 ⟨T, tc, rfl, ht3, hb3⟩
    have ho3 := OR.below ho1 hb3 (Nat.le_refl _)
    replace ht3 := ht3.mono hb2.size
    replace hb3 := below_trans hb2 (Nat.le_refl _) hb3
    generalize traceOf l n m = bs at *
    clear ho1 hb1 hb2
    go_wp2
    go_loopw [9] (fun kv wr => PCRel w l bs ob T tc kv wr) (fun kv _ => bs.length - (intOf kv).toNat)
    case atStart => exact ⟨0, Nat.zero_le _, rfl, ho3, ht3, hb3⟩
    case round =>
      clear ho3 ht3 hb3
      obtain ⟨k, hk, rfl, ho, ht, hb⟩ := hrel
      by_cases hlt : k < bs.length
      · have hq : bs[k]? = some (bs[k]) := List.getElem?_eq_getElem hlt
        have HTK := Lib.hid (List.take_succ_eq_append_getElem hlt)
        generalize hqq : bs[k] = q at hq HTK
        obtain ⟨p, mm⟩ := q
        have hpl : p < l.length := (hin.out _ (List.mem_of_getElem? hq)).1
        obtain ⟨g, rfl, hg1, hg2, -⟩ := OR.at_ ht (by omega)
        have hcells := beatCells_get bs k _ hq
        have c0 := (OR.at0 ht).1 _ _ hcells.1
        obtain ⟨o1, o2, o3⟩ := OI.at0 ho
        have c1 := o1 p _ (countRow_get (bs.take k) hpl)
        have f1 := o2 p
        have hle := countAt_le (bs.take k) p
        have htl : (bs.take k).length ≤ k := by simp; omega
        have HS := Lib.hid (o3 p ((countAt (bs.take k) p : Int) + 1))
        have hne : Value.ownBlock (.slice (some ⟨g, 0, none⟩) bs.length tc) ≠ some ob := by
          obtain ⟨cur, hc⟩ := OR.heap_ ho
          exact own_ne ht hc (by decide)
        have hobB : w.heap.size ≤ ob := (OR.base_le ho).1
        have q1 : IntKind.i64.wrap ((countAt (bs.take k) p : Int) + 1) = (countAt (bs.take k) p : Int) + 1 := IntWalk.i64_in _ (by omega)
        have q2 : (p : Int) < (l.length : Int) := by omega
        clear hcells hq hqq o1 o2 o3
        go_wp2_with fail
        go_still_tail 16, (by kernel_rfl)
        go_wp2
        refine ⟨⟨k + 1, by omega, by go_num, ?_, OR.drew (OR.set_other ht hne _), (hb.setCell hobB _).drew⟩, ?_⟩
        · have := HS.out
          rw [countRow_snoc (m := mm) hpl, ← HTK.out] at this
          exact OR.drew this
        · simp [intOf]; omega
      · obtain rfl : k = bs.length := by omega
        rw [List.take_length] at ho
        go_wp2
        go_ret
        rw [HT.out]
        exact RetI.of ho hb

end Go.Proofs.Ytfgbbajkdpideaa
