/- sameRows of the registers of two runs; how many instructions have an operation. -/
import Derived.Test.YtcaibhjdahmjeaaSame
import Derived.Test.YtcaibhjdahmjeaaILock7
import Derived.Test.YtcaibhjdahmjeaaSem
import Derived.Test.YtcaibhjdahmjeaaFnUsed
import Derived.Test.YtcaibhjdahmjeaaCountOps
import Derived.StillTailTactics
import Derived.Test.YtcaibhjdahmjeaaIRun
namespace Go.Proofs.Ytcaibhjdahmjeaa
open Go.RowKit
set_option linter.unusedVariables false
set_option linter.unusedSimpArgs false

/-- n rows of four numbers. -/
structure RdRows (w : World) (g : Nat) (rk : Nat → Nat) (rows : List (List Int)) : Prop where
  out : ∀ k, k < rows.length → w.cell? ⟨g, k, none⟩ = some (.slice (some ⟨rk k, 0, none⟩) 4 4)
  inn : ∀ k, k < rows.length → RdI w w.heap.size (some ⟨rk k, 0, none⟩) (rows.getD k [])
  four : ∀ k, k < rows.length → (rows.getD k []).length = 4
theorem RdRows.below {w w' : World} {g : Nat} {rk : Nat → Nat} {rows : List (List Int)} (h : RdRows w g rk rows) (hb : Below w.heap.size w w') : RdRows w' g rk rows :=
  ⟨fun k hk => cell_kept hb (h.out k hk), fun k hk => ((h.inn k hk).below hb).more hb.size, h.four⟩
theorem lockS_ok {l : List Cd} {n : Int} {mem : List Int} (h : lockOk l n mem = true) : SOk n.toNat (lockS l n.toNat mem) := by
  simp only [lockOk, Bool.and_eq_true] at h
  obtain ⟨hp, hn, hm⟩ := h
  have hn' := inR_iff.1 hn
  obtain ⟨h0, h1, h2⟩ := memOk_iff.1 hm
  obtain ⟨k1, -⟩ := treeOf_spec hp
  have hmm : 2 ^ n.toNat - 1 < 2 ^ n.toNat := by have : 0 < 2 ^ n.toNat := Nat.pow_pos (by decide); omega
  exact run_ok _ 3 0 _ _ k1 hmm (SOk.start' (by omega) h0 h1 h2)
theorem IR.rows {w : World} {z : IW} {T U : Option Addr} {tc uc : Nat} {s : LS} (h : IR w z T tc U uc s) (hn : s.regs.length = z.n) : RdRows w z.rg z.rk s.regs :=
  ⟨fun k hk => h.rowAt (by omega), fun k hk => by
    have := h.inn k (by omega)
    have h4 := OI.len this
    have := OR.reads this
    unfold RdI
    rw [h4]; exact this, fun k hk => OI.len (h.inn k (by omega))⟩

set_option maxRecDepth 100000 in
set_option maxHeartbeats 800000 in
theorem sameRows_c (g1 g2 c1 c2 : Nat) (rk1 rk2 : Nat → Nat) (rows : List (List Int)) (w : World) (h1 : RdRows w g1 rk1 rows) (h2 : RdRows w g2 rk2 rows) (hl : rows.length ≤ 1000000) :
    Calls Try.prog 23 #[.slice (some ⟨g1, 0, none⟩) rows.length c1, .slice (some ⟨g2, 0, none⟩) rows.length c2] w fun e w' => e = .returned (.bool true) ∧ Below w.heap.size w w' := by
  go_enter Try.func23, Try.ntmps23
  go_wp2
  go_loopw [5] (fun i wr => ∃ k : Nat, k ≤ rows.length ∧ i = .int .i64 k ∧ Below w.heap.size w wr) (fun i _ => rows.length - (intOf i).toNat)
  case atStart => exact ⟨0, Nat.zero_le _, rfl, Below.refl _ _⟩
  case round =>
    obtain ⟨k, hk, rfl, hb⟩ := hrel
    by_cases hlt : k < rows.length
    · have hkI : (k : Int) < (rows.length : Int) := by omega
      have H1 := h1.below hb
      have H2 := h2.below hb
      have o1 := H1.out k hlt
      have o2 := H2.out k hlt
      have i1 := H1.inn k hlt
      have i2 := H2.inn k hlt
      have h4 := h1.four k hlt
      have hsame := Lib.hid (fun W a b => @sameInts_c (some ⟨rk1 k, 0, none⟩) (some ⟨rk2 k, 0, none⟩) 4 4 (rows.getD k []) W a b (by omega))
      rw [h4] at hsame
      clear H1 H2 h1 h2
      go_wp2_with fail
      go_still_tail 8, (by kernel_rfl)
      go_wp2_with fail
      have hd : Below wr.heap.size wr wr.drew := ⟨rfl, rfl, rfl, Nat.le_refl _, fun _ _ => rfl⟩
      refine (hsame.out wr.drew (i1.below hd) (i2.below hd)).mono ?_
      rintro e w2 ⟨rfl, hb2⟩
      have hb3 := below_trans (below_trans hb (Nat.le_refl _) hd) (Nat.le_refl _) hb2
      go_wp2
      go_roundw
      case rel => exact ⟨k + 1, by omega, by go_num, hb3⟩
      case measure => simp [intOf]; omega
    · go_wp2
      go_ret
      exact ⟨rfl, hb⟩

theorem alike_run {l l' : List Cd} (h : pv l = true) (h' : pv l' = true) {n : Nat} (hn : 1 ≤ n ∧ n ≤ 8) {m : List Int} (hm : memOk m = true) (k : SameB (goS l n m) (goS l' n m)) :
    runOf l' (n : Int) m = runOf l n m ∧ wholeOf l' (n : Int) m = wholeOf l n m ∧ (lockS l' n m).regs = (lockS l n m).regs := by
  obtain ⟨k1, k2, k3, k4⟩ := alike_of h h' hn hm k
  have hin : inR (n : Int) 1 8 = true := inR_iff.2 (by omega)
  refine ⟨?_, ?_, k2.symm⟩
  · simp only [runOf, lockOk, h, h', hin, hm, Int.toNat_natCast, k1]
  · simp only [wholeOf, lockOk, h, h', hin, hm, Int.toNat_natCast, k4]

end Go.Proofs.Ytcaibhjdahmjeaa
