/- RunLock of both packages: the memory that is returned is the caller's own. -/
import Derived.Test.YtakeacndmnnbmaaGreatIRun
import Derived.Test.YtakeacndmnnbmaaGreatLock6
namespace Go.Proofs.YtakeacndmnnbmaaGreat
open Go.RowKit
set_option linter.unusedVariables false
set_option linter.unusedSimpArgs false

set_option maxRecDepth 100000 in
set_option maxHeartbeats 4000000 in
theorem iRunLockO_c (A Am : Option Addr) (ca cm : Nat) (l : List Cd) (n : Int) (mem : List Int) (w : World) (hA : RdC w w.heap.size A l) (hM : RdI w w.heap.size Am mem) (hl : l.length ≤ 1000000000) (hml : mem.length ≤ 1000000000) :
    Calls Tryz.prog 37 #[.slice A l.length ca, .int .i64 n, .slice Am mem.length cm] w fun e w' => ∃ (M : Option Addr) (c : Nat), e = .returned (.tuple #[.slice M (runOf l n mem).length c, .bool (wholeOf l n mem)]) ∧ OwI w' w.heap.size M (runOf l n mem).length c (runOf l n mem) ∧ Below w.heap.size w w' := by
  go_enter Tryz.func37, Tryz.ntmps37
  go_wp2_with fail
  refine (runLock_c A Am ca cm l n mem w hA hM hl hml).mono ?_
  rintro e w1 (⟨hok, hr⟩ | ⟨hok, rfl, hb1⟩)
  · obtain ⟨z, T, tc, U, uc, rfl, hzB, hzl, hzn, hS, hb1⟩ := hr
    have hn := hok
    simp only [lockOk, Bool.and_eq_true] at hn
    have hn1 := inR_iff.1 hn.2.1
    have hr1 : runOf l n mem = (lockS l n.toNat mem).mem := by simp [runOf, hok]
    have hw1 : wholeOf l n mem = !splitB l n.toNat (lockS l n.toNat mem).beats := by simp [wholeOf, hok]
    have hlen := trace_len hn.1 n.toNat mem
    have hin : ∀ q ∈ (lockS l n.toNat mem).beats, q.1 < z.l.length ∧ q.2 < 256 := fun q hq => by rw [hzl]; exact lock_in hok q hq
    have hsp := Lib.hid (split_c hS hin hlen (by rw [hzl]; exact hl) (by omega) (by rw [hzB]; exact hb1.size))
    have hs1 : w.heap.size ≤ w1.heap.size := hb1.size
    have HW := Lib.hid hw1
    have HZ := Lib.hid (show splitB z.l z.n (lockS l n.toNat mem).beats = splitB l n.toNat (lockS l n.toNat mem).beats by rw [hzl, hzn])
    have HR1 := Lib.hid hr1
    have HS := Lib.hid hS
    clear hS hok hn hzn hlen hin hr1 hw1 hzl
    go_wp2_with fail
    refine hsp.out.mono ?_
    rintro e w2 ⟨p, m, rfl, hb2⟩
    have hbw := below_trans hb1 (Nat.le_refl _) hb2
    have hS2 := HS.out.ext (Ext.of_below hb2) (by rw [hzB]; exact hs1)
    obtain ⟨-, -, c2, -, -, -, -⟩ := hS2.cells
    have hmem2 := hS2.mem
    rw [hzB] at hmem2
    have HM := Lib.hid hmem2
    clear hmem2
    rw [HZ.out] 
    have hX := Ext.alloc w2 (.cells #[.int .i64 p, .int .i64 m] 83)
    have c3 := hX.cell c2
    have HM2 := Lib.hid (OR.ext HM.out hX)
    have hbX : Below w.heap.size w (w2.alloc (.cells #[.int .i64 p, .int .i64 m] 83)) := hbw.alloc hbw.size _
    clear hS2 c2
    go_wp2
    go_ret2
    rw [HR1.out, HW.out]
    exact ⟨_, _, rfl, .inr HM2.out, hbX⟩
  · have hr1 : runOf l n mem = [] := by simp [runOf, hok]
    have hw1 : wholeOf l n mem = false := by simp [wholeOf, hok]
    have HR1 := Lib.hid hr1
    have HW := Lib.hid hw1
    clear hr1 hw1 hok
    go_wp2
    go_ret2
    rw [HR1.out, HW.out]
    exact ⟨none, 0, rfl, .inl ⟨rfl, rfl⟩, hb1⟩

set_option maxRecDepth 100000 in
set_option maxHeartbeats 4000000 in
theorem sRunLockO_c (A Am : Option Addr) (ca cm : Nat) (l : List Cd) (n : Int) (mem : List Int) (w : World) (hA : RdC w w.heap.size A l) (hM : RdI w w.heap.size Am mem) (hl : l.length ≤ 1000000000) (hml : mem.length ≤ 1000000000) :
    Calls Tryz.prog 32 #[.slice A l.length ca, .int .i64 n, .slice Am mem.length cm] w fun e w' => ∃ (M : Option Addr) (c : Nat), e = .returned (.tuple #[.slice M (runOf l n mem).length c, .bool (wholeOf l n mem)]) ∧ OwI w' w.heap.size M (runOf l n mem).length c (runOf l n mem) ∧ Below w.heap.size w w' := by
  cases hok : lockOk l n mem with
  | false =>
    have hr1 : runOf l n mem = [] := by simp [runOf, hok]
    have hw1 : wholeOf l n mem = false := by simp [wholeOf, hok]
    have HR1 := Lib.hid hr1
    have HW := Lib.hid hw1
    clear hr1 hw1
    go_enter Tryz.func32, Tryz.ntmps32
    go_wp2_with fail
    refine (sl8Ok_c A Am ca cm l n mem w hA hM hl hml).mono ?_
    rintro e w1 ⟨rfl, hb1⟩
    rw [hok]
    go_wp2
    go_ret2
    rw [HR1.out, HW.out]
    exact ⟨_, _, rfl, .inr (OI.empty_ w1 w.heap.size hb1.size), hb1.alloc hb1.size _⟩
  | true =>
    have h' := hok
    simp only [lockOk, Bool.and_eq_true] at h'
    obtain ⟨hp, hin, hmem⟩ := h'
    obtain ⟨k, rfl⟩ : ∃ k : Nat, n = (k : Int) := ⟨n.toNat, by have := (inR_iff.1 hin).1; omega⟩
    have hk1 : 1 ≤ k := by have := (inR_iff.1 hin).1; omega
    have hk8 : k ≤ 8 := by have := (inR_iff.1 hin).2; omega
    have HR1 := Lib.hid (show runOf l k mem = (runT (treeOf l) k mem).mem by simp [runOf, hok, lockS])
    have HW := Lib.hid (show wholeOf l k mem = !splitB l k (runT (treeOf l) k mem).beats by simp [wholeOf, hok, lockS])
    obtain ⟨hm0, hm1, hm2⟩ := memOk_iff.1 hmem
    obtain ⟨ht1, ht2⟩ := treeOf_spec hp
    have h40 := (pv_iff.1 hp).1
    have HT1 := Lib.hid ht1
    have HT2 := Lib.hid ht2
    clear ht1 ht2
    go_enter Tryz.func32, Tryz.ntmps32
    go_wp2_with fail
    refine (sl8Ok_c A Am ca cm l k mem w hA hM hl hml).mono ?_
    rintro e w1 ⟨rfl, hb1⟩
    rw [hok]
    have HH := Lib.hid (And.intro hok (And.intro hp (And.intro hin hmem)))
    clear hok hp hin hmem
    go_wp2_with fail
    refine (l8All_c A Am ca cm l k mem (treeOf l) w1 ((hA.below hb1).more hb1.size) ((hM.below hb1).more hb1.size) HT1.out HT2.out.symm (pv_all HH.out.2.1) h40 hk1 hk8 hm0 hm1 hm2).mono ?_
    rintro e w2 ⟨z, T, tc, rfl, hzB, hzl, hzn, hS, hb2⟩
    obtain ⟨-, -, -, c3, -, c5, -⟩ := hS.cells
    have hmem2 := hS.mem
    rw [hzB] at hmem2
    have HM := Lib.hid (OR.mono hmem2 hb1.size)
    clear hmem2
    have hb3 := below_trans hb1 (Nat.le_refl _) hb2
    generalize splitB l k (runT (treeOf l) k mem).beats = sb at *
    generalize (runT (treeOf l) k mem) = S at *
    clear hS
    go_wp2_with fail
    go_quiet (fail)
    go_wp2
    go_ret2
    rw [HR1.out, HW.out]
    exact ⟨_, _, rfl, .inr (OR.ext HM.out ⟨rfl, rfl, rfl, Nat.le_refl _, fun _ _ => rfl⟩), hb3.trans ⟨rfl, rfl, rfl, Nat.le_refl _, fun _ _ => rfl⟩⟩

end Go.Proofs.YtakeacndmnnbmaaGreat
