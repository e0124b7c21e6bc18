/- The exact laws' helpers for slices of programs. -/
import Derived.Test.YtakeacndmnnbmaaGreatChain
import Derived.Test.YtakeacndmnnbmaaGreatCodes
import Derived.Test.YtakeacndmnnbmaaGreatMarks2
namespace Go.Proofs.YtakeacndmnnbmaaGreat
open Go.RowKit
set_option linter.unusedVariables false
set_option linter.unusedSimpArgs false

def lenSum (ps : List (List Cd)) : Nat := (ps.map List.length).sum
theorem lenSum_take (ps : List (List Cd)) {i : Nat} (h : i < ps.length) : lenSum (ps.take (i + 1)) = lenSum (ps.take i) + (ps.getD i []).length := by
  unfold lenSum
  rw [List.take_succ_eq_append_getElem h, List.map_append, List.sum_append]
  have e : ps.getD i [] = ps[i] := by simp [List.getD_eq_getElem?_getD, h]
  rw [e]; simp
theorem lenSum_le (ps : List (List Cd)) : ∀ i, i ≤ ps.length → lenSum (ps.take i) ≤ lenSum ps := by
  intro i hi
  have : lenSum ps = lenSum (ps.take i) + lenSum (ps.drop i) := by
    unfold lenSum
    rw [← List.sum_append, ← List.map_append, List.take_append_drop]
  omega
theorem lenSum_get (ps : List (List Cd)) {i : Nat} (h : i < ps.length) : (ps.getD i []).length ≤ lenSum ps := by
  have h1 := lenSum_take ps h
  have h2 := lenSum_le ps (i + 1) (by omega)
  omega

set_option maxRecDepth 100000 in
set_option maxHeartbeats 4000000 in
theorem szCodeSS_c {As : Nat → Option Addr} {cs : Nat → Nat} (P : Option Addr) (pc : Nat) (ps : List (List Cd)) (w : World) (hP : RdP w w.heap.size P As cs ps) (hl : ps.length ≤ 9223372036854775807) (hls : ∀ i, i < ps.length → (ps.getD i []).length ≤ 9223372036854775807) :
    Calls Tryz.prog 27 #[.slice P ps.length pc, .int .i64 1048576] w fun e w' => ∃ r : Int, e = .returned (.int .i64 r) ∧ -1 ≤ r ∧ r ≤ 1048576 ∧ (0 ≤ r → ps.length + lenSum ps ≤ 1048576) ∧ w = w' := by
  by_cases hbig : 1048576 < ps.length
  · have hq1 : IntKind.i64.wrap ((1048576 : Int) - (ps.length : Int)) = (1048576 : Int) - (ps.length : Int) := IntWalk.i64_in _ (by omega)
    go_enter Tryz.func27, Tryz.ntmps27
    go_wp2
    go_ret
    exact ⟨-1, rfl, by omega, by omega, fun h => absurd h (by omega), rfl⟩
  · have hq1 : IntKind.i64.wrap ((1048576 : Int) - (ps.length : Int)) = ((1048576 - ps.length : Nat) : Int) := by rw [IntWalk.i64_in _ (by omega)]; omega
    have HLS := Lib.hid hls
    clear hls
    go_enter Tryz.func27, Tryz.ntmps27
    go_wp2
    go_loopw [1, 5] (fun lv kv wr => ∃ (i r : Nat), i ≤ ps.length ∧ kv = .int .i64 i ∧ lv = .int .i64 r ∧ r ≤ 1048576 ∧ Hid (r + (ps.length + lenSum (ps.take i)) = 1048576) ∧ w = wr) (fun _ kv _ => ps.length - (intOf kv).toNat)
    case atStart => exact ⟨0, 1048576 - ps.length, Nat.zero_le _, rfl, rfl, by omega, Lib.hid (by simp [lenSum]; omega), rfl⟩
    case round =>
      obtain ⟨i, r, hi, rfl, rfl, hr, HR, rfl⟩ := hrel
      by_cases hlt : i < ps.length
      · have hiI : (i : Int) < (ps.length : Int) := by omega
        obtain ⟨pb, po, rfl, hpB, p0⟩ := hP.at_ hlt
        have hpl := HLS.out i hlt
        have HT := Lib.hid (lenSum_take ps hlt)
        generalize (ps.getD i []).length = pl at *
        by_cases hneg : (r : Int) - (pl : Int) < 0
        · have HI := Lib.hid (show (if (r : Int) - (pl : Int) < 0 then (-1 : Int) else (r : Int) - (pl : Int)) = -1 from if_pos hneg)
          clear hneg
          go_wp2_with fail
          refine (szCodeS_c (As i) pl (cs i) r w hpl (by omega) (by omega)).mono ?_
          rintro e w1 ⟨rfl, rfl⟩
          rw [HI.out]
          go_wp2
          go_ret
          exact ⟨-1, rfl, by omega, by omega, fun h => absurd h (by omega), rfl⟩
        · have HI := Lib.hid (show (if (r : Int) - (pl : Int) < 0 then (-1 : Int) else (r : Int) - (pl : Int)) = ((r - pl : Nat) : Int) by rw [if_neg hneg]; omega)
          have hle : pl ≤ r := by omega
          clear hneg
          go_wp2_with fail
          refine (szCodeS_c (As i) pl (cs i) r w hpl (by omega) (by omega)).mono ?_
          rintro e w1 ⟨rfl, rfl⟩
          rw [HI.out]
          have hr2 : r - pl ≤ 1048576 := by omega
          have HR2 := Lib.hid (show r - pl + (ps.length + lenSum (ps.take (i + 1))) = 1048576 by rw [HT.out]; have := HR.out; omega)
          obtain ⟨r2, hr2e⟩ : ∃ r2, r - pl = r2 := ⟨_, rfl⟩
          rw [hr2e] at hr2 HR2 ⊢
          clear hr2e hle HI HR
          go_wp2
          go_roundw
          case rel => exact ⟨i + 1, r2, by omega, by go_num, rfl, hr2, HR2, by first | rfl | exact trivial⟩
          case measure => simp [intOf]; omega
      · obtain rfl : i = ps.length := by omega
        have hsum := HR.out
        rw [List.take_length] at hsum
        have HS := Lib.hid hsum
        clear hsum HR
        go_wp2
        go_ret
        exact ⟨r, rfl, by omega, by omega, fun _ => by have := HS.out; omega, rfl⟩
end Go.Proofs.YtakeacndmnnbmaaGreat
