/- The program's ProfileOf. -/
import Derived.Test.YtfgbbajkdpideaaProfI
namespace Go.Proofs.Ytfgbbajkdpideaa
open Go.RowKit
set_option linter.unusedVariables false
set_option linter.unusedSimpArgs false

set_option maxRecDepth 100000 in
set_option maxHeartbeats 2000000 in
/-- What runLock leaves for the profile. -/
theorem iProfileOf_c (A Am : Option Addr) (c cm : Nat) (l : List Cd) (n : Int) (m : List Int) (w : World) (hA : RdC w w.heap.size A l) (hM : RdI w w.heap.size Am m) (hl : l.length ≤ 1000000000) (hml : m.length ≤ 1000000000) :
    Calls Try.prog 10 #[.slice A l.length c, .int .i64 n, .slice Am m.length cm] w fun e w' => e = .returned (profL l n m) ∧ Below w.heap.size w w' := by
  go_enter Try.func10, Try.ntmps10
  go_wp2_with fail
  have hb0 : Below w.heap.size w (w.alloc (.cells zero5 31)) := (by repeat (first | exact Below.refl _ _ | assumption | refine Below.alloc ?_ (by simp <;> omega) _ | refine Below.setCell ?_ (by simp <;> omega) _ | refine Below.drew ?_))
  have hr0 := heap_alloc_new w (.cells zero5 31)
  refine (runLock_c A Am c cm l n m _ ((hA.below hb0).more hb0.size) ((hM.below hb0).more hb0.size) hl hml).mono ?_
  rintro e w1 (⟨hok, hr⟩ | ⟨hok, rfl, hb1⟩)
  · obtain ⟨z, T, tc, U, uc, rfl, hzB, hzl, hzn, hS, hb1⟩ := hr
    have HP := Lib.hid (show profL l n m = .agg (profCells l (lockS l n.toNat m).beats) by simp [profL, traceOf, hok])
    have hin : ∀ q ∈ (lockS l n.toNat m).beats, q.1 < z.l.length ∧ q.2 < 256 := fun q hq => by
      have h1 := trace_in (l := l) (n := n) (m := m) q (by simp [traceOf, hok]; exact hq)
      simp only [lockOk, Bool.and_eq_true] at hok
      have h3 := inR_iff.1 hok.2.1
      have h4 : 2 ^ n.toNat ≤ 2 ^ 8 := Nat.pow_le_pow_right (by decide) (by omega)
      rw [hzl]
      exact ⟨h1.1, by have := h1.2.2; omega⟩
    have hlen := traceOf_len l n m
    rw [show traceOf l n m = (lockS l n.toNat m).beats by simp [traceOf, hok]] at hlen
    have hr1 := (Ext.of_below hb1).heap_ hr0
    have hb2 := below_trans hb0 (Nat.le_refl _) hb1
    have hBz : z.B ≤ w1.heap.size := by rw [hzB]; exact hb1.size
    clear hok
    go_wp2_with fail
    refine (profile_c hS hin hlen (by rw [hzl]; exact hl) hBz).mono ?_
    rintro e w2 ⟨rfl, hb3⟩
    have hr2 := (Ext.of_below hb3).heap_ hr1
    have hb4 := below_trans hb2 (Nat.le_refl _) hb3
    rw [hzl]
    have hz := heap_setRow_same (cs := profCells l (lockS l n.toNat m).beats) hr2
    have hbz := below_setRow hb4 (b := w.heap.size) (cs := profCells l (lockS l n.toNat m).beats) (Nat.le_refl _) (Nat.le_refl _)
    rename_i K1 hK1 K2 hK2
    simp only []
    refine hK2 _ _ (wpList_store_row rfl _ _ _ rfl w.heap.size rfl _ zero5 _ rfl hr2 (by kernel_rfl) rfl (by simp [profCells, Value.oneCell']) (wpList_nil ?_))
    go_wp2_with fail
    refine ret_cell Try.results10 _ rfl _ _ _ hz _ (Try.underlying31) rfl (by kernel_rfl) rfl ?_
    exact ⟨by rw [HP.out], hbz⟩
  · have HP := Lib.hid (show profL l n m = .agg zero5 by simp [profL, traceOf, hok, profCells, zero5, actOf, opsOf])
    have hr1 := (Ext.of_below hb1).heap_ hr0
    have hb2 := below_trans hb0 (Nat.le_refl _) hb1
    have hz := heap_setRow_same (cs := zero5) hr1
    have hbz := below_setRow hb2 (b := w.heap.size) (cs := zero5) (Nat.le_refl _) (Nat.le_refl _)
    clear hok
    go_upto_region 3 with fail
    refine wp_region_lit ?_
    refine wpList_step (fun K2 hK2 => ?_)
    go_simp
    refine hK2 _ _ (wpList_store_row rfl _ _ _ rfl w.heap.size rfl _ zero5 _ rfl hr1 (by kernel_rfl) rfl (by simp [Value.oneCell']) (wpList_nil ?_))
    go_wp2_with fail
    refine ret_cell Try.results10 _ rfl _ _ _ hz _ (Try.underlying31) rfl (by kernel_rfl) rfl ?_
    exact ⟨by rw [HP.out], hbz⟩

end Go.Proofs.Ytfgbbajkdpideaa
