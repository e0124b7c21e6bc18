/- The reference's MemoryValid, l8Ok, LockTrace, PlaceCounts. -/
import Derived.Test.YtakeacndmnnbmaaGreatLock4
import Derived.Test.YtakeacndmnnbmaaGreatLock0
import Derived.StillTailTactics
namespace Go.Proofs.YtakeacndmnnbmaaGreat
open Go.RowKit
set_option linter.unusedVariables false
set_option linter.unusedSimpArgs false

set_option maxRecDepth 100000 in
set_option maxHeartbeats 4000000 in
theorem sMemoryValid_c (A : Option Addr) (c : Nat) (m : List Int) (w : World) (hA : RdI w w.heap.size A m) (hl : m.length ≤ 1000000000) :
    Calls Tryz.prog 53 #[.slice A m.length c] w fun e w' => e = .returned (.bool (memOk m)) ∧ w = w' := by
  go_enter Tryz.func53, Tryz.ntmps53
  go_wp2
  go_loopw [3] (fun i wr => ∃ k : Nat, k ≤ m.length ∧ i = .int .i64 k ∧ Hid (∀ j x, j < k → m[j]? = some x → inR x 0 255 = true) ∧ w = wr) (fun i _ => m.length - (intOf i).toNat)
  case atStart => exact ⟨0, Nat.zero_le _, rfl, fun j x hj => by omega, rfl⟩
  case round =>
    obtain ⟨k, hk, rfl, HP, rfl⟩ := hrel
    by_cases hlt : k < m.length
    · obtain ⟨b, off, x, rfl, hbB, hx, c0⟩ := hA.at_ hlt
      have HX := Lib.hid hx
      clear hx
      go_wp2_with fail
      refine (l2Word_c x w).mono ?_
      rintro e w1 ⟨rfl, rfl⟩
      cases hv : inR x 0 255 with
      | false =>
        have hm : memOk m = false := by
          have : m.all (fun v => inR v 0 255) = false := List.all_eq_false.2 ⟨x, List.mem_of_getElem? HX.out, by simp [hv]⟩
          simp [memOk, this]
        go_wp2
        go_ret
        exact ⟨retb hm.symm, rfl⟩
      | true =>
        have HV := Lib.hid hv
        clear hv
        go_wp2
        go_roundw
        case rel =>
          refine ⟨k + 1, by omega, by go_num, fun j y hj hy => ?_, trivial⟩
          by_cases e : j = k
          · subst e
            rw [HX.out] at hy
            injection hy with hy
            subst hy
            exact HV.out
          · exact HP.out j y (by omega) hy
        case measure => simp [intOf]; omega
    · obtain rfl : k = m.length := by omega
      have hm : memOk m = inR m.length 1 32 := by
        have : m.all (fun v => inR v 0 255) = true := List.all_eq_true.2 fun x hx => by
          obtain ⟨j, hj, rfl⟩ := List.mem_iff_getElem.1 hx
          exact HP.out j _ hj (List.getElem?_eq_getElem hj)
        simp [memOk, this]
      go_wp2_with fail
      refine (l1In_c m.length 1 32 w).mono ?_
      rintro e w1 ⟨rfl, rfl⟩
      go_wp2
      go_ret
      exact ⟨retb hm.symm, rfl⟩

set_option maxRecDepth 100000 in
set_option maxHeartbeats 4000000 in
theorem sl8Ok_c (A Am : Option Addr) (c cm : Nat) (l : List Cd) (n : Int) (m : List Int) (w : World) (hA : RdC w w.heap.size A l) (hM : RdI w w.heap.size Am m) (hl : l.length ≤ 1000000000) (hml : m.length ≤ 1000000000) :
    Calls Tryz.prog 55 #[.slice A l.length c, .int .i64 n, .slice Am m.length cm] w fun e w' => e = .returned (.bool (lockOk l n m)) ∧ Below w.heap.size w w' := by
  go_enter Tryz.func55, Tryz.ntmps55
  go_wp2_with fail
  refine (sProgramValid_c A c l w hA hl).mono ?_
  rintro e w1 ⟨rfl, hb1⟩
  cases hp : pv l with
  | false =>
    go_wp2
    go_ret
    exact ⟨retb (by simp [lockOk, hp]), hb1⟩
  | true =>
    go_wp2_with fail
    refine (l1In_c n 1 8 w1).mono ?_
    rintro e w2 ⟨rfl, rfl⟩
    cases hin : inR n 1 8 with
    | false =>
      go_wp2
      go_ret
      exact ⟨retb (by simp [lockOk, hin]), hb1⟩
    | true =>
      go_wp2_with fail
      refine (sMemoryValid_c Am cm m w1 ((hM.below hb1).more hb1.size) hml).mono ?_
      rintro e w2 ⟨rfl, rfl⟩
      go_wp2
      go_ret
      exact ⟨retb (by simp [lockOk, hp, hin]), hb1⟩

/-- A slice of steps is returned. -/
def RetT (w : World) (bs : List (Nat × Nat)) (e : Ending) (w' : World) : Prop :=
  ∃ A c, e = .returned (.slice A bs.length c) ∧ OR w' w.heap.size 83 2 A bs.length c (beatCells bs) ∧ Below w.heap.size w w'

theorem beatCells_get : ∀ (bs : List (Nat × Nat)) (k : Nat) (q : Nat × Nat), bs[k]? = some q → (beatCells bs)[k * 2]? = some (.int .i64 q.1) ∧ (beatCells bs)[k * 2 + 1]? = some (.int .i64 q.2)
  | [], k, q, h => by simp at h
  | p :: bs, 0, q, h => by
    simp at h
    subst h
    exact ⟨rfl, rfl⟩
  | p :: bs, k + 1, q, h => by
    have ih := beatCells_get bs k q (by simpa using h)
    have e : beatCells (p :: bs) = [.int .i64 p.1, .int .i64 p.2] ++ beatCells bs := rfl
    rw [e, show (k + 1) * 2 = 2 + k * 2 by omega, List.getElem?_append_right (by simp), List.getElem?_append_right (by simp; omega)]
    refine ⟨?_, ?_⟩
    · rw [← ih.1]; congr 1; simp
    · rw [← ih.2]; congr 1; simp; omega
theorem countRow_zero (n : Nat) : (zeroRow (.int .i64 0) n).toList = (countRow [] n).map (Value.int .i64) := by
  rw [countRow_nil]
  simp only [List.map_replicate]
  exact toList_madeCells_one _ _

def PCRel (w : World) (l : List Cd) (bs : List (Nat × Nat)) (ob : Nat) (T : Option Addr) (tc : Nat) (kv : Value) (wr : World) : Prop :=
  ∃ k : Nat, k ≤ bs.length ∧ kv = .int .i64 k ∧ OI wr w.heap.size (some ⟨ob, 0, none⟩) l.length l.length (countRow (bs.take k) l.length) ∧ OR wr w.heap.size 83 2 T bs.length tc (beatCells bs) ∧ Below w.heap.size w wr

end Go.Proofs.YtakeacndmnnbmaaGreat
