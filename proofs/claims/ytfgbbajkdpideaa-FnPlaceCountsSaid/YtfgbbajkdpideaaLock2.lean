/- The reference's run in lockstep: what lies in memory. -/
import Derived.Test.YtfgbbajkdpideaaLock1s
import Derived.Test.YtfgbbajkdpideaaLock1
import Derived.Test.YtfgbbajkdpideaaLock0
namespace Go.Proofs.Ytfgbbajkdpideaa
open Go.RowKit
set_option linter.unusedVariables false
set_option linter.unusedSimpArgs false

def beatCells (bs : List (Nat × Nat)) : List Value := bs.flatMap fun q => [.int .i64 q.1, .int .i64 q.2]
theorem beatCells_length : ∀ bs : List (Nat × Nat), (beatCells bs).length = bs.length * 2
  | [] => rfl
  | q :: bs => by simp [beatCells, List.flatMap_cons] at *; have := beatCells_length bs; simp [beatCells] at this; omega
theorem beatCells_append (a b : List (Nat × Nat)) : beatCells (a ++ b) = beatCells a ++ beatCells b := by simp [beatCells]
def rowVals (rk : Nat → Nat) (n : Nat) : List Value := (List.range n).map fun k => .slice (some ⟨rk k, 0, none⟩) 4 4
theorem rowVals_get (rk : Nat → Nat) (n k : Nat) (h : k < n) : (rowVals rk n)[k]? = some (.slice (some ⟨rk k, 0, none⟩) 4 4) := by simp [rowVals, h]

/-- Where the parts of a run lie. -/
structure SW where
  B : Nat
  g : Nat
  A : Option Addr
  ca : Nat
  l : List Cd
  n : Nat
  rg : Nat
  rc : Nat
  rk : Nat → Nat
  mb : Nat
  mc : Nat

def SW.row (z : SW) (s : LS) (T : Option Addr) (tc : Nat) (sp : Bool) : Array Value :=
  #[.slice z.A z.l.length z.ca, .int .i64 z.n, .slice (some ⟨z.rg, 0, none⟩) z.n z.rc, .slice (some ⟨z.mb, 0, none⟩) s.mem.length z.mc, .slice T s.beats.length tc, .bool sp, .slice none 0 0, .bool false]

structure SR (w : World) (z : SW) (T : Option Addr) (tc : Nat) (sp : Bool) (s : LS) : Prop where
  blk : w.heap[z.g]? = some (.cells (z.row s T tc sp) 88 (0, 0))
  gB : z.B ≤ z.g
  out : OR w z.B 27 1 (some ⟨z.rg, 0, none⟩) z.n z.rc (rowVals z.rk z.n)
  inn : ∀ k, k < z.n → OI w z.B (some ⟨z.rk k, 0, none⟩) 4 4 (s.regs.getD k [])
  mem : OI w z.B (some ⟨z.mb, 0, none⟩) s.mem.length z.mc s.mem
  trc : OR w z.B 56 2 T s.beats.length tc (beatCells s.beats)
  inj : ∀ j k, j < z.n → k < z.n → z.rk j = z.rk k → j = k
  mne : ∀ k, k < z.n → z.rk k ≠ z.mb
  lst : RdC w z.B z.A z.l

/-- Nothing below B is turned, and no block of instructions. -/
structure Stp (B : Nat) (w w' : World) : Prop where
  bel : Below B w w'
  code : ∀ (k : Nat) (cs : Array Value), w.heap[k]? = some (.cells cs 50 (0, 0)) → w'.heap[k]? = some (.cells cs 50 (0, 0))
theorem Stp.refl (B : Nat) (w : World) : Stp B w w := ⟨Below.refl _ _, fun _ _ h => h⟩
theorem Stp.trans {B : Nat} {a b c : World} (h : Stp B a b) (k : Stp B b c) : Stp B a c := ⟨h.bel.trans k.bel, fun i cs hi => k.code i cs (h.code i cs hi)⟩
theorem Stp.of_ext {B : Nat} {w w' : World} (h : Ext w w') (hB : B ≤ w.heap.size) : Stp B w w' := ⟨h.below.mono hB, fun _ _ hk => h.heap_ hk⟩
theorem Stp.of_below {B : Nat} {w w' : World} (h : Below w.heap.size w w') (hB : B ≤ w.heap.size) : Stp B w w' := Stp.of_ext (Ext.of_below h) hB
theorem Stp.drew {B : Nat} {w w' : World} (h : Stp B w w') : Stp B w w'.drew := ⟨h.bel.drew, h.code⟩
theorem Stp.size {B : Nat} {w w' : World} (h : Stp B w w') : w.heap.size ≤ w'.heap.size := h.bel.size

section
variable {w w' : World} {z : SW} {T : Option Addr} {tc : Nat} {sp : Bool} {s : LS}
theorem SR.ext (h : SR w z T tc sp s) (hx : Ext w w') (hB : z.B ≤ w.heap.size) : SR w' z T tc sp s :=
  ⟨hx.heap_ h.blk, h.gB, h.out.ext hx, fun k hk => OR.ext (h.inn k hk) hx, OR.ext h.mem hx, h.trc.ext hx, h.inj, h.mne, h.lst.below ((hx.below).mono hB)⟩

theorem SR.cells (h : SR w z T tc sp s) : w.cell? ⟨z.g, 0, none⟩ = some (.slice z.A z.l.length z.ca) ∧ w.cell? ⟨z.g, 1, none⟩ = some (.int .i64 z.n) ∧
    w.cell? ⟨z.g, 2, none⟩ = some (.slice (some ⟨z.rg, 0, none⟩) z.n z.rc) ∧ w.cell? ⟨z.g, 3, none⟩ = some (.slice (some ⟨z.mb, 0, none⟩) s.mem.length z.mc) ∧
    w.cell? ⟨z.g, 4, none⟩ = some (.slice T s.beats.length tc) ∧ w.cell? ⟨z.g, 5, none⟩ = some (.bool sp) ∧ w.cell? ⟨z.g, 6, none⟩ = some (.slice none 0 0) := by
  refine ⟨?_, ?_, ?_, ?_, ?_, ?_, ?_⟩ <;> (rw [cell_of_heap h.blk]; rfl)
theorem SR.rowAt (h : SR w z T tc sp s) {k : Nat} (hk : k < z.n) : w.cell? ⟨z.rg, k, none⟩ = some (.slice (some ⟨z.rk k, 0, none⟩) 4 4) :=
  (OR.at0 h.out).1 k _ (rowVals_get _ _ _ hk)
theorem SR.glt (h : SR w z T tc sp s) : z.g < w.heap.size := lt_of_block h.blk
theorem SR.g_rk (h : SR w z T tc sp s) {k : Nat} (hk : k < z.n) : z.g ≠ z.rk k := by
  obtain ⟨cur, hc⟩ := OR.heap_ (h.inn k hk)
  exact type_ne h.blk hc (by decide)
theorem SR.g_mb (h : SR w z T tc sp s) : z.g ≠ z.mb := by
  obtain ⟨cur, hc⟩ := OR.heap_ h.mem
  exact type_ne h.blk hc (by decide)
theorem SR.g_rg (h : SR w z T tc sp s) : z.g ≠ z.rg := by
  obtain ⟨cur, hc⟩ := OR.heap_ h.out
  exact type_ne h.blk hc (by decide)
theorem SR.t_g (h : SR w z T tc sp s) : Value.ownBlock (.slice T s.beats.length tc) ≠ some z.g := own_ne h.trc h.blk (by decide)
theorem SR.t_rk (h : SR w z T tc sp s) {k : Nat} (hk : k < z.n) : Value.ownBlock (.slice T s.beats.length tc) ≠ some (z.rk k) := by
  obtain ⟨cur, hc⟩ := OR.heap_ (h.inn k hk)
  exact own_ne h.trc hc (by decide)
theorem SR.t_mb (h : SR w z T tc sp s) : Value.ownBlock (.slice T s.beats.length tc) ≠ some z.mb := by
  obtain ⟨cur, hc⟩ := OR.heap_ h.mem
  exact own_ne h.trc hc (by decide)
theorem SR.t_rg (h : SR w z T tc sp s) : Value.ownBlock (.slice T s.beats.length tc) ≠ some z.rg := by
  obtain ⟨cur, hc⟩ := OR.heap_ h.out
  exact own_ne h.trc hc (by decide)

/-- One instruction of lane k. -/
theorem SR.simp (h : SR w z T tc sp s) {x : Cd} {k mn : Nat} (hk : k < z.n) (hok : SOk z.n s) (hmn : mn = s.mem.length) (hB : z.B ≤ w.heap.size)
    (hs : Simp1 w z.B (z.rk k) 4 z.mb mn z.mc x k (s.regs.getD k []) s.mem w') : SR w' z T tc sp (exec1 x s k) ∧ Stp z.B w w' := by
  subst hmn
  obtain ⟨h1, h2, h3⟩ := hs
  obtain ⟨cur, hc⟩ := OR.heap_ (h.inn k hk)
  obtain ⟨cum, hcm⟩ := OR.heap_ h.mem
  have hl := simp1_len x k (s.regs.getD k []) s.mem
  have hkl : k < s.regs.length := by rw [hok.len]; exact hk
  have hb : Below z.B w w' := h3.below (OR.block (h.inn k hk) _ rfl).1 (OR.block h.mem _ rfl).1 hB
  refine ⟨⟨?_, h.gB, ?_, ?_, ?_, ?_, h.inj, h.mne, h.lst.below hb⟩, hb, fun i cs hi => (h3.block i (lt_of_block hi) (type_ne hi hc (by decide)) (type_ne hi hcm (by decide))).trans hi⟩
  · rw [h3.block _ h.glt (h.g_rk hk) h.g_mb, h.blk]
    simp only [SW.row, exec1, hl.2]
  · exact h.out.off h3 (by
      intro e
      obtain ⟨co, ho⟩ := OR.heap_ h.out
      exact type_ne ho hc (by decide) (by injection e)) (by
      intro e
      obtain ⟨co, ho⟩ := OR.heap_ h.out
      exact type_ne ho hcm (by decide) (by injection e))
  · intro j hj
    by_cases e : j = k
    · subst e
      have : (exec1 x s j).regs.getD j [] = (simp1 x j (s.regs.getD j []) s.mem).1 := by
        simp [exec1, List.getD_eq_getElem?_getD, hkl]
      rw [this]
      exact h1
    · have : (exec1 x s k).regs.getD j [] = s.regs.getD j [] := by
        simp [exec1, List.getD_eq_getElem?_getD, List.getElem?_set_ne (fun h => e h.symm)]
      rw [this]
      refine OR.off (h.inn j hj) h3 ?_ ?_
      · intro e2; exact e (h.inj j k hj hk (by injection e2))
      · intro e2; exact h.mne j hj (by injection e2)
  · have : (exec1 x s k).mem.length = s.mem.length := hl.2
    rw [this]
    exact h2
  · exact h.trc.off h3 (h.t_rk hk) h.t_mb

/-- A store into cell 4, behind an append to the trace. -/
theorem SR.beat_ {wb w2 : World} (h : SR w z T tc sp s) (hX : Ext w wb) (hB : z.B ≤ w.heap.size) {p m : Nat} {T' : Option Addr} {tc' : Nat} (hg : wb.grownBy w2 (Value.ownBlock (.slice T s.beats.length tc)))
    (ho : OR w2 z.B 56 2 T' (s.beats.length + 1) tc' (beatCells s.beats ++ [.int .i64 p, .int .i64 m])) :
    SR (w2.setCell ⟨z.g, 4, none⟩ (.slice T' (s.beats.length + 1) tc')) z T' tc' sp (beat p m s) ∧ Stp z.B w (w2.setCell ⟨z.g, 4, none⟩ (.slice T' (s.beats.length + 1) tc')) := by
  have hwb := h.ext hX hB
  have kp : ∀ k, k < wb.heap.size → Value.ownBlock (.slice T s.beats.length tc) ≠ some k → w2.heap[k]? = wb.heap[k]? := fun k hk hne => hg.block k hk (fun e => hne e.symm)
  have hblk : w2.heap[z.g]? = some (.cells (z.row s T tc sp) 88 (0, 0)) := (kp _ hwb.glt hwb.t_g).trans hwb.blk
  have hout := OR.kept hwb.out hg (.inr fun e => hwb.t_rg e.symm)
  have hmem := OR.kept hwb.mem hg (.inr fun e => hwb.t_mb e.symm)
  have hbl : (beat p m s).beats.length = s.beats.length + 1 := by simp [beat]
  have hlst : Below z.B wb w2 := ⟨hg.os, hg.tape, hg.output, hg.size, fun k hk => kp k (by have := hX.size; omega) (fun e => by have := (OR.block hwb.trc k e).1; omega)⟩
  have hb2 : Below z.B w (w2.setCell ⟨z.g, 4, none⟩ (.slice T' (s.beats.length + 1) tc')) := (((hX.below).mono hB).trans hlst).setCell h.gB _
  have og : ∀ {e size n c : Nat} {A : Option Addr} {xs : List Value}, OR w2 z.B e size A n c xs → e ≠ 88 → OR (w2.setCell ⟨z.g, 4, none⟩ (.slice T' (s.beats.length + 1) tc')) z.B e size A n c xs := fun ho hne => OR.set_other ho (p := ⟨z.g, 4, none⟩) (own_ne ho hblk hne) _
  refine ⟨⟨?_, h.gB, og hout (by decide), fun k hk => ?_, og hmem (by decide), ?_, h.inj, h.mne, ?_⟩, hb2, fun i cs hi => ?_⟩
  · rw [heap_set_same hblk]
    simp [SW.row, hbl]
    rfl
  · exact og (OR.kept (hwb.inn k hk) hg (.inr fun e => hwb.t_rk hk e.symm)) (by decide)
  · rw [hbl]
    have e : beatCells (beat p m s).beats = beatCells s.beats ++ [.int .i64 p, .int .i64 m] := by
      show beatCells (s.beats ++ [(p, m)]) = _
      rw [beatCells_append]; rfl
    rw [e]
    exact og ho (by decide)
  · exact h.lst.below hb2
  · have hib := hX.heap_ hi
    have h2 := (kp i (lt_of_block hib) (own_ne hwb.trc hib (by decide))).trans hib
    rw [heap_set_other (type_ne h2 hblk (by decide))]
    exact h2

/-- A store of whether a barrier is split. -/
theorem SR.spl (h : SR w z T tc sp s) (hB : z.B ≤ w.heap.size) (b : Bool) : SR (w.setCell ⟨z.g, 5, none⟩ (.bool b)) z T tc b s ∧ Stp z.B w (w.setCell ⟨z.g, 5, none⟩ (.bool b)) := by
  have hb : Below z.B w (w.setCell ⟨z.g, 5, none⟩ (.bool b)) := (Below.refl _ _).setCell h.gB _
  have og : ∀ {e size n c : Nat} {A : Option Addr} {xs : List Value}, OR w z.B e size A n c xs → e ≠ 88 → OR (w.setCell ⟨z.g, 5, none⟩ (.bool b)) z.B e size A n c xs := fun ho hne => OR.set_other ho (p := ⟨z.g, 5, none⟩) (own_ne ho h.blk hne) _
  refine ⟨⟨?_, h.gB, og h.out (by decide), fun k hk => og (h.inn k hk) (by decide), og h.mem (by decide), og h.trc (by decide), h.inj, h.mne, h.lst.below hb⟩, hb, fun i cs hi => (heap_set_other (type_ne hi h.blk (by decide)) _ _).trans hi⟩
  rw [heap_set_same h.blk]
  rfl
end

def OnRel (m : Nat) (a : Int) (s : LS) (n : Nat) (ov kv : Value) : Prop :=
  ∃ k : Nat, k ≤ n ∧ kv = .int .i64 k ∧ ov = .int .i64 (onesTo m a s k)

set_option maxRecDepth 100000 in
set_option maxHeartbeats 2000000 in
theorem ones_c {w : World} {z : SW} {T : Option Addr} {tc : Nat} {sp : Bool} {s : LS} (h : SR w z T tc sp s) (hok : SOk z.n s) (m : Nat) (hm : m < 2 ^ z.n) (a : Int) (ha : 0 ≤ a ∧ a ≤ 3) :
    Calls Try.prog 72 #[.pointer (some ⟨z.g, 0, none⟩), .int .i64 m, .int .i64 a] w fun e w' => e = .returned (.int .i64 (onesOf m a s)) ∧ w = w' := by
  obtain ⟨a, rfl⟩ := Int.eq_ofNat_of_zero_le ha.1
  have a3 : a ≤ 3 := by omega
  have n8 := hok.n8
  obtain ⟨c0, c1, c2, c3, c4, c5, c6⟩ := h.cells
  have HO := Lib.hid (onesOf_n hm n8 (a : Int) s)
  have m256 : m < 2 ^ 8 := Nat.lt_of_lt_of_le hm (Nat.pow_le_pow_right (by decide) n8)
  have m256' : m < 256 := by omega
  clear c0 c3 c4 c5 c6 hm m256
  go_enter Try.func72, Try.ntmps72
  go_wp2
  go_loop [7, 8] (fun ov kv => OnRel m a s z.n ov kv) (fun _ kv => z.n - (intOf kv).toNat)
  case atStart => exact ⟨0, Nat.zero_le _, rfl, rfl⟩
  case round =>
    obtain ⟨k, hk, rfl, rfl⟩ := hrel
    by_cases hlt : k < z.n
    · have hrow := h.rowAt hlt
      have hr4 := hok.get hlt
      have hreg := (OI.at0 (h.inn k hlt)).1 a _ (rg_get hr4.1 a3)
      have hbt := bit_tm m k
      have hon := onesTo_lt m a s k
      have hpw : 2 ^ k ≤ 2 ^ 7 := Nat.pow_le_pow_right (by decide) (by omega)
      have hto : onesTo m a s (k + 1) = if m.testBit k && !(rg (s.regs.getD k []) (a : Int) == 0) then onesTo m a s k ||| 2 ^ k else onesTo m a s k := rfl
      have HT := Lib.hid hto
      generalize onesTo m a s k = u at *
      have hu : u < 128 := by omega
      clear hto hr4 hpw hon
      generalize rg (s.regs.getD k []) (a : Int) = v at hreg HT
      cases hb : m.testBit k with
      | false =>
        rw [hb] at hbt
        have HB := Lib.hid hb
        clear hb
        go_wp2
        go_round
        case rel => exact ⟨k + 1, by omega, by go_num, by rw [HT.out, HB.out]; rfl⟩
        case measure => simp [intOf]; omega
      | true =>
        rw [hb] at hbt
        have HB := Lib.hid hb
        clear hb
        cases hz : v == 0 with
        | true =>
          have hn : (v != 0) = false := by simp [bne, hz]
          have HZ := Lib.hid hz
          clear hz
          go_wp2
          go_round
          case rel => exact ⟨k + 1, by omega, by go_num, by rw [HT.out, HB.out, HZ.out]; rfl⟩
          case measure => simp [intOf]; omega
        | false =>
          have hn : (v != 0) = true := by simp [bne, hz]
          have HZ := Lib.hid hz
          clear hz
          go_wp2
          go_round
          case rel => exact ⟨k + 1, by omega, by go_num, by rw [HT.out, HB.out, HZ.out, or_bit _ _ (by omega) (by omega)]; rfl⟩
          case measure => simp [intOf]; omega
    · obtain rfl : k = z.n := by omega
      go_wp2
      go_ret
      exact ⟨reti (by rw [HO.out]), rfl⟩
end Go.Proofs.Ytfgbbajkdpideaa
