/- The program's PlaceCounts, HotPlace. -/
import Derived.Test.YtfgbbajkdpideaaILock7
import Derived.Test.YtfgbbajkdpideaaILock1
import Derived.Test.YtfgbbajkdpideaaSlices
import Derived.Test.YtfgbbajkdpideaaLock0
namespace Go.Proofs.Ytfgbbajkdpideaa
open Go.RowKit
set_option linter.unusedVariables false
set_option linter.unusedSimpArgs false

theorem countRow_zero' (n : Nat) : (zeroRow (.int .i64 0) n).toList = (countRow [] n).map (Value.int .i64) := by
  rw [countRow_nil]
  simp only [List.map_replicate]
  exact toList_madeCells_one _ _

def IPRel8 (w : World) (l : List Cd) (bs : List (Nat × Nat)) (ob : Nat) (T : Option Addr) (tc : Nat) (kv : Value) (wr : World) : Prop :=
  ∃ k : Nat, k ≤ bs.length ∧ kv = .int .i64 k ∧ OI wr w.heap.size (some ⟨ob, 0, none⟩) l.length l.length (countRow (bs.take k) l.length) ∧ OR wr w.heap.size 56 2 T bs.length tc (beatsV bs) ∧ Below w.heap.size w wr

set_option maxRecDepth 100000 in
set_option maxHeartbeats 4000000 in
theorem iPlaceCounts_c (A Am : Option Addr) (c cm : Nat) (l : List Cd) (n : Int) (m : List Int) (w : World) (hA : RdC w w.heap.size A l) (hM : RdI w w.heap.size Am m) (hl : l.length ≤ 1000000000) (hml : m.length ≤ 1000000000) :
    Calls Try.prog 13 #[.slice A l.length c, .int .i64 n, .slice Am m.length cm] w (RetI w (countsL l n m)) := by
  have hmk := make_int l.length (by omega)
  go_enter Try.func13, Try.ntmps13
  go_wp2_with fail
  refine (runLock_c A Am c cm l n m w hA hM hl hml).mono ?_
  rintro e w1 (⟨hok, hr⟩ | ⟨hok, rfl, hb1⟩)
  · obtain ⟨z, T, tc, U, uc, rfl, hzB, hzl, hzn, hS, hb1⟩ := hr
    have HT := Lib.hid (show countsL l n m = countRow (lockS l n.toNat m).beats l.length by simp [countsL, traceOf, hok])
    have hin := Lib.hid (show ∀ q ∈ (lockS l n.toNat m).beats, q.1 < l.length from fun q hq => (trace_in (l := l) (n := n) (m := m) q (by simp [traceOf, hok]; exact hq)).1)
    have hlen := traceOf_len l n m
    rw [show traceOf l n m = (lockS l n.toNat m).beats by simp [traceOf, hok]] at hlen
    obtain ⟨-, -, -, c3, -, -, -⟩ := hS.cells
    have ht := hS.trc
    rw [hzB] at ht
    generalize (lockS l n.toNat m).beats = bs at *
    have c3' := (Ext.alloc w1 (.cells (zeroRow (.int .i64 0) l.length) 3)).cell c3
    clear hok
    go_wp2_with fail
    have ho1 : OI (w1.alloc (.cells (zeroRow (.int .i64 0) l.length) 3)) w.heap.size (some ⟨w1.heap.size, 0, none⟩) l.length l.length (countRow [] l.length) := by
      have := OR.lit w1 w.heap.size 3 1 l.length (zeroRow (.int .i64 0) l.length) hb1.size (by omega) (by rw [zeroRow_size]; omega)
      rw [countRow_zero'] at this
      exact this
    have hb2 := hb1.alloc hb1.size (.cells (zeroRow (.int .i64 0) l.length) 3)
    have ht2 := OR.alloc ht (.cells (zeroRow (.int .i64 0) l.length) 3)
    clear hmk hS ht c3 c3'
    generalize w1.alloc (.cells (zeroRow (.int .i64 0) l.length) 3) = w2 at *
    generalize w1.heap.size = ob at *
    go_loopw [29] (fun kv wr => IPRel8 w l bs ob T tc kv wr) (fun kv _ => bs.length - (intOf kv).toNat)
    case atStart => exact ⟨0, Nat.zero_le _, rfl, ho1, ht2, hb2⟩
    case round =>
      clear ho1 ht2 hb2 hb1
      obtain ⟨k, hk, rfl, ho, ht, hb⟩ := hrel
      by_cases hlt : k < bs.length
      · have hq : bs[k]? = some (bs[k]) := List.getElem?_eq_getElem hlt
        have HTK := Lib.hid (List.take_succ_eq_append_getElem hlt)
        generalize hqq : bs[k] = q at hq HTK
        obtain ⟨p, mm⟩ := q
        have hpl : p < l.length := hin.out _ (List.mem_of_getElem? hq)
        obtain ⟨g, rfl, hg1, hg2, -⟩ := OR.at_ ht (by omega)
        have hcells := beatsV_get bs k _ hq
        have c0 := (OR.at0 ht).1 _ _ hcells.1
        have c1 := (OR.at0 ht).1 _ _ hcells.2
        obtain ⟨o1, o2, o3⟩ := OI.at0 ho
        have c2 := o1 p _ (countRow_get (bs.take k) hpl)
        have f1 := o2 p
        have hle := countAt_le (bs.take k) p
        have htl : (bs.take k).length ≤ k := by simp; omega
        have HS := Lib.hid (o3 p ((countAt (bs.take k) p : Int) + 1))
        have hne : Value.ownBlock (.slice (some ⟨g, 0, none⟩) bs.length tc) ≠ some ob := by
          obtain ⟨cur, hc⟩ := OR.heap_ ho
          exact own_ne ht hc (by decide)
        have hobB : w.heap.size ≤ ob := (OR.base_le ho).1
        have hobl : ob < wr.heap.size := (OR.base_le ho).2
        have q1 : IntKind.i64.wrap ((countAt (bs.take k) p : Int) + 1) = (countAt (bs.take k) p : Int) + 1 := IntWalk.i64_in _ (by omega)
        have q2 : (p : Int) < (l.length : Int) := by omega
        have q3 : (k : Int) < (bs.length : Int) := by omega
        have hbs := hb.size
        clear hcells hq hqq o1 o2 o3
        go_wp2
        go_roundw
        case rel =>
          refine ⟨k + 1, by omega, by go_num, ?_, OR.alloc (OR.set_other ht hne _) _, (hb.setCell hobB _).alloc (by simp; omega) _⟩
          have := HS.out
          rw [countRow_snoc (m := mm) hpl, ← HTK.out] at this
          exact OR.alloc this _
        case measure => simp [intOf]; omega
      · obtain rfl : k = bs.length := by omega
        rw [List.take_length] at ho
        go_wp2
        go_ret
        rw [HT.out]
        exact RetI.of ho hb
  · have HT := Lib.hid (show countsL l n m = [] by simp [countsL, hok])
    clear hok
    go_wp2
    go_ret
    rw [HT.out]
    exact ⟨none, 0, rfl, .inl ⟨rfl, rfl⟩, hb1⟩

/-- The greatest of the first numbers. -/
def mxTo (c : List Int) : Nat → Int
  | 0 => cN c 0
  | k + 1 => max (mxTo c k) (cN c k)
theorem mxTo_ge (c : List Int) : ∀ k j, j < k → cN c j ≤ mxTo c k
  | 0, j, h => by omega
  | k + 1, j, h => by
    simp only [mxTo]
    by_cases e : j = k
    · subst e; omega
    · have := mxTo_ge c k j (by omega); omega
theorem mxTo_hit (c : List Int) : ∀ k, 1 ≤ k → ∃ j, j < k ∧ mxTo c k = cN c j
  | 0, h => by omega
  | 1, _ => ⟨0, by omega, by simp [mxTo]⟩
  | k + 2, _ => by
    obtain ⟨j, hj, e⟩ := mxTo_hit c (k + 1) (by omega)
    show ∃ j, j < k + 2 ∧ max (mxTo c (k + 1)) (cN c (k + 1)) = cN c j
    rcases Int.le_total (mxTo c (k + 1)) (cN c (k + 1)) with h | h
    · exact ⟨k + 1, by omega, by rw [Int.max_eq_right h]⟩
    · exact ⟨j, by omega, by rw [Int.max_eq_left h, e]⟩

theorem counts_nonneg (l : List Cd) (n : Int) (m : List Int) (k : Nat) : 0 ≤ cN (countsL l n m) k := by
  unfold cN
  rw [List.getD_eq_getElem?_getD]
  cases h : (countsL l n m)[k]? with
  | none => simp
  | some v =>
    have := List.mem_of_getElem? h
    unfold countsL at this
    split at this
    · simp only [countRow, List.mem_map] at this
      obtain ⟨j, _, rfl⟩ := this
      simp
    · simp at this
/-- The greatest of counts, and its first place. -/
theorem hot_index {C : List Int} (h1 : 1 ≤ C.length) (hm : 0 < mxTo C C.length) {i : Int} (hi : IdxPost C (mxTo C C.length) i) : i = hotI C := by
  have hh := hotTo_hot C C.length
  refine Hot.eq (k := C.length) ?_ hh
  rcases hi with ⟨k, rfl, hk, e, hlt⟩ | ⟨_, hne⟩
  · refine .inr ⟨k, rfl, hk, by omega, fun j hj => by have := mxTo_ge C C.length j hj; omega, fun j hj => ?_⟩
    have h2 := mxTo_ge C C.length j (by omega)
    have h3 := hlt j hj
    omega
  · obtain ⟨j, hj, e⟩ := mxTo_hit C C.length h1
    exact absurd e.symm (hne j hj)
theorem hot_none {C : List Int} (hn : ∀ k, 0 ≤ cN C k) (h : C.length = 0 ∨ mxTo C C.length = 0) : hotI C = -1 := by
  have hh := hotTo_hot C C.length
  refine (Hot.eq (k := C.length) (b := hotI C) ?_ hh).symm
  refine .inl ⟨rfl, fun j hj => ?_⟩
  rcases h with h | h
  · omega
  · have := mxTo_ge C C.length j hj; omega

end Go.Proofs.Ytfgbbajkdpideaa
