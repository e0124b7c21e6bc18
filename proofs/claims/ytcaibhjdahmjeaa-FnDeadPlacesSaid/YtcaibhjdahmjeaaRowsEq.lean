/- sameRows of the registers of two runs; how many instructions have an operation. -/
import Derived.Test.YtcaibhjdahmjeaaSame
import Derived.Test.YtcaibhjdahmjeaaILock7
import Derived.Test.YtcaibhjdahmjeaaSem
import Derived.Test.YtcaibhjdahmjeaaFnUsed
import Derived.StillTailTactics
import Derived.Test.YtcaibhjdahmjeaaIRun
namespace Go.Proofs.Ytcaibhjdahmjeaa
open Go.RowKit
set_option linter.unusedVariables false
set_option linter.unusedSimpArgs false

/-- n rows of four numbers. -/
structure RdRows (w : World) (g : Nat) (rk : Nat → Nat) (rows : List (List Int)) : Prop where
  out : ∀ k, k < rows.length → w.cell? ⟨g, k, none⟩ = some (.slice (some ⟨rk k, 0, none⟩) 4 4)
  inn : ∀ k, k < rows.length → RdI w w.heap.size (some ⟨rk k, 0, none⟩) (rows.getD k [])
  four : ∀ k, k < rows.length → (rows.getD k []).length = 4
theorem RdRows.below {w w' : World} {g : Nat} {rk : Nat → Nat} {rows : List (List Int)} (h : RdRows w g rk rows) (hb : Below w.heap.size w w') : RdRows w' g rk rows :=
  ⟨fun k hk => cell_kept hb (h.out k hk), fun k hk => ((h.inn k hk).below hb).more hb.size, h.four⟩
theorem lockS_ok {l : List Cd} {n : Int} {mem : List Int} (h : lockOk l n mem = true) : SOk n.toNat (lockS l n.toNat mem) := by
  simp only [lockOk, Bool.and_eq_true] at h
  obtain ⟨hp, hn, hm⟩ := h
  have hn' := inR_iff.1 hn
  obtain ⟨h0, h1, h2⟩ := memOk_iff.1 hm
  obtain ⟨k1, -⟩ := treeOf_spec hp
  have hmm : 2 ^ n.toNat - 1 < 2 ^ n.toNat := by have : 0 < 2 ^ n.toNat := Nat.pow_pos (by decide); omega
  exact run_ok _ 3 0 _ _ k1 hmm (SOk.start' (by omega) h0 h1 h2)
theorem IR.rows {w : World} {z : IW} {T U : Option Addr} {tc uc : Nat} {s : LS} (h : IR w z T tc U uc s) (hn : s.regs.length = z.n) : RdRows w z.rg z.rk s.regs :=
  ⟨fun k hk => h.rowAt (by omega), fun k hk => by
    have := h.inn k (by omega)
    have h4 := OI.len this
    have := OR.reads this
    unfold RdI
    rw [h4]; exact this, fun k hk => OI.len (h.inn k (by omega))⟩

set_option maxRecDepth 100000 in
set_option maxHeartbeats 800000 in
theorem sameRows_c (g1 g2 c1 c2 : Nat) (rk1 rk2 : Nat → Nat) (rows : List (List Int)) (w : World) (h1 : RdRows w g1 rk1 rows) (h2 : RdRows w g2 rk2 rows) (hl : rows.length ≤ 1000000) :
    Calls Try.prog 23 #[.slice (some ⟨g1, 0, none⟩) rows.length c1, .slice (some ⟨g2, 0, none⟩) rows.length c2] w fun e w' => e = .returned (.bool true) ∧ Below w.heap.size w w' := by
  go_enter Try.func23, Try.ntmps23
  go_wp2
  go_loopw [5] (fun i wr => ∃ k : Nat, k ≤ rows.length ∧ i = .int .i64 k ∧ Below w.heap.size w wr) (fun i _ => rows.length - (intOf i).toNat)
  case atStart => exact ⟨0, Nat.zero_le _, rfl, Below.refl _ _⟩
  case round =>
    obtain ⟨k, hk, rfl, hb⟩ := hrel
    by_cases hlt : k < rows.length
    · have hkI : (k : Int) < (rows.length : Int) := by omega
      have H1 := h1.below hb
      have H2 := h2.below hb
      have o1 := H1.out k hlt
      have o2 := H2.out k hlt
      have i1 := H1.inn k hlt
      have i2 := H2.inn k hlt
      have h4 := h1.four k hlt
      have hsame := Lib.hid (fun W a b => @sameInts_c (some ⟨rk1 k, 0, none⟩) (some ⟨rk2 k, 0, none⟩) 4 4 (rows.getD k []) W a b (by omega))
      rw [h4] at hsame
      clear H1 H2 h1 h2
      go_wp2_with fail
      go_still_tail 8, (by kernel_rfl)
      go_wp2_with fail
      have hd : Below wr.heap.size wr wr.drew := ⟨rfl, rfl, rfl, Nat.le_refl _, fun _ _ => rfl⟩
      refine (hsame.out wr.drew (i1.below hd) (i2.below hd)).mono ?_
      rintro e w2 ⟨rfl, hb2⟩
      have hb3 := below_trans (below_trans hb (Nat.le_refl _) hd) (Nat.le_refl _) hb2
      go_wp2
      go_roundw
      case rel => exact ⟨k + 1, by omega, by go_num, hb3⟩
      case measure => simp [intOf]; omega
    · go_wp2
      go_ret
      exact ⟨rfl, hb⟩

theorem countOp_take {l : List Cd} {k : Nat} {x : Cd} (hx : l[k]? = some x) (o : Int) : countOp (l.take (k + 1)) o = countOp (l.take k) o + (if x.op == o then 1 else 0) := by
  obtain ⟨hk, rfl⟩ := List.getElem?_eq_some_iff.1 hx
  rw [List.take_succ_eq_append_getElem hk, countOp_app, countOp_cons]
  rfl
def countOpI (l : List Cd) (o : Int) : Int := if pv l then (countOp l o : Int) else -1

def COpRel (w : World) (l : List Cd) (o : Int) (iv cv : Value) (wr : World) : Prop := ∃ k m : Nat, k ≤ l.length ∧ iv = .int .i64 k ∧ cv = .int .i64 m ∧ Hid (m = countOp (l.take k) o) ∧ Below w.heap.size w wr

set_option maxRecDepth 100000 in
set_option maxHeartbeats 800000 in
theorem iCountOps_c (A : Option Addr) (c : Nat) (l : List Cd) (o : Int) (w : World) (hA : RdC w w.heap.size A l) (hl : l.length ≤ 1000000000) :
    Calls Try.prog 33 #[.slice A l.length c, .int .i64 o] w fun e w' => e = .returned (.int .i64 (countOpI l o)) ∧ Below w.heap.size w w' := by
  cases hp : pv l with
  | false =>
    have HC := Lib.hid (show countOpI l o = -1 by simp [countOpI, hp])
    go_enter Try.func33, Try.ntmps33
    go_wp2_with fail
    refine (iProgramValid_c A c l w hA hl).mono ?_
    rintro e w1 ⟨rfl, hb1⟩
    rw [hp]
    clear hp
    go_wp2
    go_ret
    exact ⟨reti HC.out.symm, hb1⟩
  | true =>
    have HC := Lib.hid (show countOpI l o = (countOp l o : Int) by simp [countOpI, hp])
    go_enter Try.func33, Try.ntmps33
    go_wp2_with fail
    refine (iProgramValid_c A c l w hA hl).mono ?_
    rintro e w1 ⟨rfl, hb1⟩
    rw [hp]
    clear hp
    go_wp2
    go_loopw [13, 5] (fun iv cv wr => COpRel w l o iv cv wr) (fun iv _ _ => l.length - (intOf iv).toNat)
    case atStart => exact ⟨0, 0, Nat.zero_le _, rfl, rfl, Lib.hid rfl, hb1⟩
    case round =>
      obtain ⟨k, m, hk, rfl, rfl, HM, hb⟩ := hrel
      by_cases hlt : k < l.length
      · obtain ⟨lb, lo, x, rfl, hbB, hx, l0, l1, l2, l3⟩ := (hA.below hb).at_ hlt
        have hm : m ≤ l.length := by have := HM.out; have h2 := countOp_le (l.take k) o; simp at h2; omega
        have hkI : (k : Int) < (l.length : Int) := by omega
        have HX := Lib.hid hx
        have hbA : Below w.heap.size w (wr.alloc (.cells #[.int .i64 x.op, .int .i64 x.a, .int .i64 x.b, .int .i64 x.c] 48)) := hb.alloc hb.size _
        clear hx
        cases ho : (x.op == o) with
        | true =>
          have HS := Lib.hid (show m + 1 = countOp (l.take (k + 1)) o by rw [countOp_take HX.out, ← HM.out, ho]; rfl)
          go_wp2
          go_roundw
          case rel => exact ⟨k + 1, m + 1, by omega, by go_num, by go_num, HS, hbA⟩
          case measure => simp [intOf]; omega
        | false =>
          have HS := Lib.hid (show m = countOp (l.take (k + 1)) o by rw [countOp_take HX.out, ← HM.out, ho]; rfl)
          go_wp2
          go_roundw
          case rel => exact ⟨k + 1, m, by omega, by go_num, rfl, HS, hbA⟩
          case measure => simp [intOf]; omega
      · obtain rfl : k = l.length := by omega
        have HM2 := Lib.hid (show m = countOp l o by have := HM.out; rwa [List.take_length] at this)
        go_wp2
        go_ret
        exact ⟨reti (by rw [HC.out, ← HM2.out]), hb⟩

theorem alike_run {l l' : List Cd} (h : pv l = true) (h' : pv l' = true) {n : Nat} (hn : 1 ≤ n ∧ n ≤ 8) {m : List Int} (hm : memOk m = true) (k : SameB (goS l n m) (goS l' n m)) :
    runOf l' (n : Int) m = runOf l n m ∧ wholeOf l' (n : Int) m = wholeOf l n m ∧ (lockS l' n m).regs = (lockS l n m).regs := by
  obtain ⟨k1, k2, k3, k4⟩ := alike_of h h' hn hm k
  have hin : inR (n : Int) 1 8 = true := inR_iff.2 (by omega)
  refine ⟨?_, ?_, k2.symm⟩
  · simp only [runOf, lockOk, h, h', hin, hm, Int.toNat_natCast, k1]
  · simp only [wholeOf, lockOk, h, h', hin, hm, Int.toNat_natCast, k4]

end Go.Proofs.Ytcaibhjdahmjeaa
