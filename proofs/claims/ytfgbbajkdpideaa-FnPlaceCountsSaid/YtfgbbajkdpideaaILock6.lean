/- The program's whole run in lockstep: valid arguments, the machine. -/
import Derived.Test.YtfgbbajkdpideaaILock1
import Derived.Test.YtfgbbajkdpideaaBlocks0
import Derived.Test.YtfgbbajkdpideaaMem2
import Derived.Test.YtfgbbajkdpideaaLock0
import Derived.Test.YtfgbbajkdpideaaBits
namespace Go.Proofs.Ytfgbbajkdpideaa
open Go.RowKit
set_option linter.unusedVariables false
set_option linter.unusedSimpArgs false

set_option maxRecDepth 100000 in
set_option maxHeartbeats 2000000 in
theorem newMachine_c (A : Option Addr) (c : Nat) (l : List Cd) (w : World) (hA : RdC w w.heap.size A l) (hp : pv l = true) :
    Calls Try.prog 44 #[.slice A l.length c] w fun e w' => ∃ mg ob ga, e = .returned (.pointer (some ⟨mg, 0, none⟩)) ∧ MK w' w.heap.size mg A c l ob ga ∧ Below w.heap.size w w' := by
  have h40 := (pv_iff.1 hp).1
  have HP := Lib.hid hp
  clear hp
  go_enter Try.func44, Try.ntmps44
  go_wp2_with fail
  refine (blocks_c A c l w hA (by omega) (pv_all HP.out)).mono ?_
  rintro e w1 ⟨hb1, hcase⟩
  rcases hcase with ⟨_, rfl, ga, oth, en, As, cs, hW, hP⟩ | ⟨hp2, _⟩
  case inr => exact absurd (pv_iff.1 HP.out).2 hp2
  have hX := Ext.alloc w1 (.cells #[.slice A l.length c, .slice (some ⟨w.heap.size + 1, 0, none⟩) l.length l.length] 84)
  have hN := heap_alloc_new w1 (.cells #[.slice A l.length c, .slice (some ⟨w.heap.size + 1, 0, none⟩) l.length l.length] 84)
  have hs1 := hb1.size
  have HMK := Lib.hid (show MK (w1.alloc (.cells #[.slice A l.length c, .slice (some ⟨w.heap.size + 1, 0, none⟩) l.length l.length] 84)) w.heap.size w1.heap.size A c l (w.heap.size + 1) ga from
    ⟨hN, hs1, hW.own.ext hX, fun p hp ho => by
      obtain ⟨b1, b2⟩ := hW.blk p hp ho
      have hc := hP.clo p hp ho (by simp)
      exact ⟨by omega, by rw [hc]; exact hX.heap_ b2⟩, (hA.below hb1).below ((hX.below).mono hs1)⟩)
  clear hX hN hW hP
  go_wp2
  go_ret
  exact ⟨w1.heap.size, _, ga, rfl, HMK.out, hb1.alloc hs1 _⟩

set_option maxRecDepth 100000 in
set_option maxHeartbeats 2000000 in
theorem mv1_c (x : Int) (w : World) : Calls Try.prog 65 #[.int .i64 x] w fun e w' => e = .returned (.bool (!inR x 0 255)) ∧ w = w' := by
  go_enter Try.func65, Try.ntmps65
  go_wp2_with (go_at_call 56; refine (isWord_c _ _).mono ?_; rintro e w' ⟨rfl, rfl⟩)
  go_ret
  exact ⟨rfl, rfl⟩

theorem any_take {g : Int → Bool} {l : List Int} {k : Nat} {x : Int} (hx : l[k]? = some x) (h : (l.take k).any g = false) : (l.take (k + 1)).any g = g x := by
  obtain ⟨hk, rfl⟩ := List.getElem?_eq_some_iff.1 hx
  rw [List.take_succ_eq_append_getElem hk, List.any_append, h]
  simp
theorem any_hit {g : Int → Bool} {l : List Int} {k : Nat} {x : Int} (hx : l[k]? = some x) (h : g x = true) : l.any g = true :=
  List.any_eq_true.2 ⟨x, List.mem_of_getElem? hx, h⟩

set_option maxRecDepth 100000 in
set_option maxHeartbeats 2000000 in
theorem mvIndex_c (A : Option Addr) (c : Nat) (l : List Int) (w : World) (hA : RdI w w.heap.size A l) (hl : l.length ≤ 1000000000) (g : Int → Bool) (hgd : g = fun x => !inR x 0 255) :
    Calls Try.prog 74 #[.slice A l.length c, .func (Fn.func 65) #[] #[]] w fun e w' => ∃ i : Int, e = .returned (.int .i64 i) ∧ decide (0 ≤ i) = l.any g ∧ w = w' := by
  have HGD := Lib.hid (fun x => show g x = !inR x 0 255 by rw [hgd])
  clear hgd
  go_enter Try.func74, Try.ntmps74
  go_wp2
  go_loop [8] (fun kv => ∃ k : Nat, k ≤ l.length ∧ kv = .int .i64 k ∧ Hid ((l.take k).any g = false)) (fun kv => l.length - (intOf kv).toNat)
  case atStart => exact ⟨0, Nat.zero_le _, rfl, Lib.hid (by simp)⟩
  case round =>
    obtain ⟨k, hk, rfl, HN⟩ := hrel
    by_cases hlt : k < l.length
    · obtain ⟨b, off, x, rfl, hbB, hx, d0⟩ := hA.at_ hlt
      have HX := Lib.hid hx
      have hkI : (k : Int) < (l.length : Int) := by omega
      clear hx
      go_wp2_with fail
      refine (mv1_c x _).mono ?_
      rintro e w1 ⟨rfl, rfl⟩
      rw [← HGD.out x]
      cases hgx : g x with
      | true =>
        have HG := Lib.hid (any_hit HX.out hgx)
        clear hgx
        go_wp2
        go_ret
        exact ⟨k, rfl, by rw [HG.out]; simp, rfl⟩
      | false =>
        have HG := Lib.hid (show (l.take (k + 1)).any g = false by rw [any_take HX.out HN.out, hgx])
        clear hgx
        go_wp2
        go_round
        case rel => exact ⟨k + 1, by omega, by go_num, HG⟩
        case measure => simp [intOf]; omega
    · obtain rfl : k = l.length := by omega
      have HN2 := Lib.hid (show l.any g = false by have := HN.out; rwa [List.take_length] at this)
      go_wp2
      go_ret
      exact ⟨-1, rfl, by rw [HN2.out]; simp, rfl⟩

set_option maxRecDepth 100000 in
set_option maxHeartbeats 2000000 in
theorem mvContains_c (A : Option Addr) (c : Nat) (l : List Int) (w : World) (hA : RdI w w.heap.size A l) (hl : l.length ≤ 1000000000) (g : Int → Bool) (hgd : g = fun x => !inR x 0 255) :
    Calls Try.prog 64 #[.slice A l.length c, .func (Fn.func 65) #[] #[]] w fun e w' => e = .returned (.bool (l.any g)) ∧ w = w' := by
  have HGD := Lib.hid hgd
  clear hgd
  go_enter Try.func64, Try.ntmps64
  go_wp2_with fail
  refine (mvIndex_c A c l w hA hl g HGD.out).mono ?_
  rintro e w1 ⟨i, rfl, hi, rfl⟩
  go_wp2
  go_ret
  exact ⟨retb (by first | exact hi | (rw [← hi]; simp) | (rw [← hi])), rfl⟩

set_option maxRecDepth 100000 in
set_option maxHeartbeats 2000000 in
theorem iMemoryValid_c (A : Option Addr) (c : Nat) (m : List Int) (w : World) (hM : RdI w w.heap.size A m) (hl : m.length ≤ 1000000000) :
    Calls Try.prog 57 #[.slice A m.length c] w fun e w' => e = .returned (.bool (memOk m)) ∧ w = w' := by
  cases hin : inR m.length 1 32 with
  | false =>
    go_enter Try.func57, Try.ntmps57
    go_wp2_with (go_at_call 33; refine (within_c _ _ _ _).mono ?_; rintro e w' ⟨rfl, rfl⟩)
    go_ret
    exact ⟨retb (by simp [memOk, hin]), rfl⟩
  | true =>
    have HA := Lib.hid (show memOk m = !(m.any fun x => !inR x 0 255) by simp [memOk, hin, List.all_eq_not_any_not])
    go_enter Try.func57, Try.ntmps57
    go_wp2_with (go_at_call 33; refine (within_c _ _ _ _).mono ?_; rintro e w' ⟨rfl, rfl⟩)
    refine (mvContains_c A c m w hM hl _ rfl).mono ?_
    rintro e w1 ⟨rfl, rfl⟩
    go_wp2
    go_ret
    exact ⟨retb HA.out.symm, rfl⟩

theorem isLanes_c' (n : Int) (w : World) : Calls Try.prog 42 #[.int .i64 n] w fun e w' => e = .returned (.bool (inR n 1 8)) ∧ w = w' := isLanes_c n w

set_option maxRecDepth 100000 in
set_option maxHeartbeats 2000000 in
theorem canRun_c (A Am : Option Addr) (c cm : Nat) (l : List Cd) (n : Int) (m : List Int) (w : World) (hA : RdC w w.heap.size A l) (hM : RdI w w.heap.size Am m) (hl : l.length ≤ 1000000000) (hml : m.length ≤ 1000000000) :
    Calls Try.prog 43 #[.slice A l.length c, .int .i64 n, .slice Am m.length cm] w fun e w' => e = .returned (.bool (lockOk l n m)) ∧ Below w.heap.size w w' := by
  cases hp : pv l with
  | false =>
    go_enter Try.func43, Try.ntmps43
    go_wp2_with fail
    refine (iProgramValid_c A c l w hA hl).mono ?_
    rintro e w1 ⟨rfl, hb1⟩
    rw [hp]
    go_wp2
    go_ret
    exact ⟨retb (by simp [lockOk, hp]), hb1⟩
  | true =>
    cases hin : inR n 1 8 with
    | false =>
      go_enter Try.func43, Try.ntmps43
      go_wp2_with fail
      refine (iProgramValid_c A c l w hA hl).mono ?_
      rintro e w1 ⟨rfl, hb1⟩
      rw [hp]
      go_wp2_with fail
      refine (isLanes_c n w1).mono ?_
      rintro e w2 ⟨rfl, rfl⟩
      rw [hin]
      go_wp2
      go_ret
      exact ⟨retb (by simp [lockOk, hin]), hb1⟩
    | true =>
      go_enter Try.func43, Try.ntmps43
      go_wp2_with fail
      refine (iProgramValid_c A c l w hA hl).mono ?_
      rintro e w1 ⟨rfl, hb1⟩
      rw [hp]
      go_wp2_with fail
      refine (isLanes_c n w1).mono ?_
      rintro e w2 ⟨rfl, rfl⟩
      rw [hin]
      go_wp2_with fail
      refine (iMemoryValid_c Am cm m w1 ((hM.below hb1).more hb1.size) hml).mono ?_
      rintro e w2 ⟨rfl, rfl⟩
      go_wp2
      go_ret
      exact ⟨retb (by simp [lockOk, hp, hin]), hb1⟩

theorem iMaskAll_c (n : Int) (w : World) :
    Calls Try.prog 25 #[.int .i64 n] w fun e w' => e = .returned (.int .i64 (maskAllI n)) ∧ w = w' := by
  cases h : inR n 1 8 with
  | false =>
    go_enter Try.func25, Try.ntmps25
    go_wp2_with (go_at_call 42; refine (isLanes_c _ _).mono ?_; rintro e w' ⟨rfl, rfl⟩)
    go_ret
    exact ⟨reti (by simp [maskAllI, h]), rfl⟩
  | true =>
    have h' := inR_iff.1 h
    have h8 : n = 1 ∨ n = 2 ∨ n = 3 ∨ n = 4 ∨ n = 5 ∨ n = 6 ∨ n = 7 ∨ n = 8 := by omega
    clear h h'
    rcases h8 with rfl | rfl | rfl | rfl | rfl | rfl | rfl | rfl
    all_goals
      go_enter Try.func25, Try.ntmps25
      go_wp2_with (go_at_call 42; refine (isLanes_c _ _).mono ?_; rintro e w' ⟨rfl, rfl⟩)
      go_ret
      exact ⟨reti (by decide), rfl⟩

end Go.Proofs.Ytfgbbajkdpideaa
