/- How many instructions have an operation: impl.CountOps. -/
import Derived.Test.YtfgbbajkdpideaaSame
import Derived.Test.YtfgbbajkdpideaaBlocks0
import Derived.Test.YtfgbbajkdpideaaSem
namespace Go.Proofs.Ytfgbbajkdpideaa
open Go.RowKit
set_option linter.unusedVariables false
set_option linter.unusedSimpArgs false

theorem countOp_take {l : List Cd} {k : Nat} {x : Cd} (hx : l[k]? = some x) (o : Int) : countOp (l.take (k + 1)) o = countOp (l.take k) o + (if x.op == o then 1 else 0) := by
  obtain ⟨hk, rfl⟩ := List.getElem?_eq_some_iff.1 hx
  rw [List.take_succ_eq_append_getElem hk, countOp_app, countOp_cons]
  rfl
def countOpI (l : List Cd) (o : Int) : Int := if pv l then (countOp l o : Int) else -1

def COpRel (w : World) (l : List Cd) (o : Int) (iv cv : Value) (wr : World) : Prop := ∃ k m : Nat, k ≤ l.length ∧ iv = .int .i64 k ∧ cv = .int .i64 m ∧ Hid (m = countOp (l.take k) o) ∧ Below w.heap.size w wr

set_option maxRecDepth 100000 in
set_option maxHeartbeats 800000 in
theorem iCountOps_c (A : Option Addr) (c : Nat) (l : List Cd) (o : Int) (w : World) (hA : RdC w w.heap.size A l) (hl : l.length ≤ 1000000000) :
    Calls Try.prog 11 #[.slice A l.length c, .int .i64 o] w fun e w' => e = .returned (.int .i64 (countOpI l o)) ∧ Below w.heap.size w w' := by
  cases hp : pv l with
  | false =>
    have HC := Lib.hid (show countOpI l o = -1 by simp [countOpI, hp])
    go_enter Try.func11, Try.ntmps11
    go_wp2_with fail
    refine (iProgramValid_c A c l w hA hl).mono ?_
    rintro e w1 ⟨rfl, hb1⟩
    rw [hp]
    clear hp
    go_wp2
    go_ret
    exact ⟨reti HC.out.symm, hb1⟩
  | true =>
    have HC := Lib.hid (show countOpI l o = (countOp l o : Int) by simp [countOpI, hp])
    go_enter Try.func11, Try.ntmps11
    go_wp2_with fail
    refine (iProgramValid_c A c l w hA hl).mono ?_
    rintro e w1 ⟨rfl, hb1⟩
    rw [hp]
    clear hp
    go_wp2
    go_loopw [13, 5] (fun iv cv wr => COpRel w l o iv cv wr) (fun iv _ _ => l.length - (intOf iv).toNat)
    case atStart => exact ⟨0, 0, Nat.zero_le _, rfl, rfl, Lib.hid rfl, hb1⟩
    case round =>
      obtain ⟨k, m, hk, rfl, rfl, HM, hb⟩ := hrel
      by_cases hlt : k < l.length
      · obtain ⟨lb, lo, x, rfl, hbB, hx, l0, l1, l2, l3⟩ := (hA.below hb).at_ hlt
        have hm : m ≤ l.length := by have := HM.out; have h2 := countOp_le (l.take k) o; simp at h2; omega
        have hkI : (k : Int) < (l.length : Int) := by omega
        have HX := Lib.hid hx
        have hbA : Below w.heap.size w (wr.alloc (.cells #[.int .i64 x.op, .int .i64 x.a, .int .i64 x.b, .int .i64 x.c] 50)) := hb.alloc hb.size _
        clear hx
        cases ho : (x.op == o) with
        | true =>
          have HS := Lib.hid (show m + 1 = countOp (l.take (k + 1)) o by rw [countOp_take HX.out, ← HM.out, ho]; rfl)
          go_wp2
          go_roundw
          case rel => exact ⟨k + 1, m + 1, by omega, by go_num, by go_num, HS, hbA⟩
          case measure => simp [intOf]; omega
        | false =>
          have HS := Lib.hid (show m = countOp (l.take (k + 1)) o by rw [countOp_take HX.out, ← HM.out, ho]; rfl)
          go_wp2
          go_roundw
          case rel => exact ⟨k + 1, m, by omega, by go_num, rfl, HS, hbA⟩
          case measure => simp [intOf]; omega
      · obtain rfl : k = l.length := by omega
        have HM2 := Lib.hid (show m = countOp l o by have := HM.out; rwa [List.take_length] at this)
        go_wp2
        go_ret
        exact ⟨reti (by rw [HC.out, ← HM2.out]), hb⟩

end Go.Proofs.Ytfgbbajkdpideaa
