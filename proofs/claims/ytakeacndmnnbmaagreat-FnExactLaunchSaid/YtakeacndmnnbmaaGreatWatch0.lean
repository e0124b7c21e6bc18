/- The reference's accesses: what lies in memory. -/
import Derived.Test.YtakeacndmnnbmaaGreatLock3
import Derived.Test.YtakeacndmnnbmaaGreatLock4
import Derived.Test.YtakeacndmnnbmaaGreatILock4
namespace Go.Proofs.YtakeacndmnnbmaaGreat
open Go.RowKit
set_option linter.unusedVariables false
set_option linter.unusedSimpArgs false

/-- A state whose steps are not noted. -/
def nbt (s : LS) : LS := { s with beats := [] }
theorem SOk.nbt {n : Nat} {s : LS} (h : SOk n s) : SOk n (nbt s) := ⟨h.n8, h.len, h.four, h.memw, h.mem1, h.mem2⟩
theorem execTo_ph {x : Cd} (hx : memOp x = false) (m : Nat) (s : LS) (ph : Nat) : ∀ k, execTo x m { s with phase := ph } k = { execTo x m s k with phase := ph }
  | 0 => rfl
  | k + 1 => by
    simp only [execTo, execTo_ph hx m s ph k]
    split
    · simp only [exec1, hx]; rfl
    · rfl
/-- The state before the lanes of an instruction: a barrier is counted. -/
def pre10 (x : Cd) (s : LS) : LS := if x.op == 10 then { s with phase := s.phase + 1 } else s
theorem execM_pre {m n : Nat} (h : m < 2 ^ n) (hn : n ≤ 8) (x : Cd) (s : LS) : execM x m s = execTo x m (pre10 x s) n := by
  rw [execM_eq h hn]
  unfold pre10
  cases e : x.op == 10 with
  | false => rfl
  | true =>
    have hm : memOp x = false := by simp [memOp, beq_iff_eq.1 e]
    simp only [if_true]
    rw [execTo_ph hm m s (s.phase + 1) n, execTo_phase]

theorem SOk.pre10 {n : Nat} {s : LS} (h : SOk n s) (x : Cd) : SOk n (pre10 x s) := by
  unfold Proofs.YtakeacndmnnbmaaGreat.pre10
  split
  · exact ⟨h.n8, h.len, h.four, h.memw, h.mem1, h.mem2⟩
  · exact h
theorem pre10_accs (x : Cd) (s : LS) : (pre10 x s).accs = s.accs := by unfold pre10; split <;> rfl
theorem pre10_phase (x : Cd) (s : LS) : (pre10 x s).phase ≤ s.phase + 1 := by
  unfold pre10
  split
  · exact Nat.le_refl _
  · omega
/-- The access of lane k is noted. -/
def noteA (x : Cd) (s : LS) (k : Nat) : LS := if memOp x then addAcc ⟨k, (s.reg k x.b % s.mem.length).toNat, x.op == 9, s.phase⟩ s else s
theorem noteA_regs (x : Cd) (s : LS) (k : Nat) : (noteA x s k).regs = s.regs := by unfold noteA; split <;> rfl
theorem noteA_mem (x : Cd) (s : LS) (k : Nat) : (noteA x s k).mem = s.mem := by unfold noteA; split <;> rfl

structure WR (w : World) (z : SW) (ob pb : Nat) (U : Option Addr) (uc : Nat) (s : LS) : Prop where
  run : SR w z none 0 false (nbt s)
  oc : w.heap[ob]? = some (.cells #[.slice U s.accs.length uc] 89 (0, 0))
  pc : w.heap[pb]? = some (.cells #[.int .i64 s.phase] 3 (0, 0))
  acc : OR w z.B 118 4 U s.accs.length uc (accsV s.accs)
  oB : z.B ≤ ob
  pB : z.B ≤ pb
  pk : ∀ k, k < z.n → pb ≠ z.rk k
  pm : pb ≠ z.mb

section
variable {w w' : World} {z : SW} {ob pb : Nat} {U : Option Addr} {uc : Nat} {s : LS}
theorem WR.ext (h : WR w z ob pb U uc s) (hx : Ext w w') (hB : z.B ≤ w.heap.size) : WR w' z ob pb U uc s :=
  ⟨h.run.ext hx hB, hx.heap_ h.oc, hx.heap_ h.pc, h.acc.ext hx, h.oB, h.pB, h.pk, h.pm⟩
theorem WR.inn (h : WR w z ob pb U uc s) {k : Nat} (hk : k < z.n) : OI w z.B (some ⟨z.rk k, 0, none⟩) 4 4 (s.regs.getD k []) := h.run.inn k hk
theorem WR.mem (h : WR w z ob pb U uc s) : OI w z.B (some ⟨z.mb, 0, none⟩) s.mem.length z.mc s.mem := h.run.mem
theorem WR.cells (h : WR w z ob pb U uc s) : w.cell? ⟨z.g, 0, none⟩ = some (.slice z.A z.l.length z.ca) ∧ w.cell? ⟨z.g, 1, none⟩ = some (.int .i64 z.n) ∧
    w.cell? ⟨z.g, 2, none⟩ = some (.slice (some ⟨z.rg, 0, none⟩) z.n z.rc) ∧ w.cell? ⟨z.g, 3, none⟩ = some (.slice (some ⟨z.mb, 0, none⟩) s.mem.length z.mc) ∧
    w.cell? ⟨ob, 0, none⟩ = some (.slice U s.accs.length uc) ∧ w.cell? ⟨pb, 0, none⟩ = some (.int .i64 s.phase) := by
  obtain ⟨c0, c1, c2, c3, -, -, -⟩ := h.run.cells
  exact ⟨c0, c1, c2, c3, cell_of_heap h.oc 0, cell_of_heap h.pc 0⟩

/-- One instruction of lane k, the accesses left as they are. -/
theorem WR.simp (h : WR w z ob pb U uc s) {x : Cd} {k mn : Nat} (hk : k < z.n) (hok : SOk z.n s) (hmn : mn = s.mem.length) (hB : z.B ≤ w.heap.size)
    (hs : Simp1 w z.B (z.rk k) 4 z.mb mn z.mc x k (s.regs.getD k []) s.mem w') : WR w' z ob pb U uc { s with regs := s.regs.set k (simp1 x k (s.regs.getD k []) s.mem).1, mem := (simp1 x k (s.regs.getD k []) s.mem).2 } ∧ Stp z.B w w' := by
  have h1 := h.run.simp (x := x) hk hok.nbt hmn hB hs
  obtain ⟨-, -, h3⟩ := hs
  obtain ⟨cur, hc⟩ := OR.heap_ (h.run.inn k hk)
  obtain ⟨cum, hcm⟩ := OR.heap_ h.run.mem
  refine ⟨⟨?_, ?_, ?_, h.acc.byType fun b cs hi => (h3.block b (lt_of_block hi) (type_ne hi hc (by decide)) (type_ne hi hcm (by decide))).trans hi, h.oB, h.pB, h.pk, h.pm⟩, h1.2⟩
  · have e : nbt { s with regs := s.regs.set k (simp1 x k (s.regs.getD k []) s.mem).1, mem := (simp1 x k (s.regs.getD k []) s.mem).2 } = { exec1 x (nbt s) k with accs := s.accs } := rfl
    rw [e]
    have h2 := h1.1
    exact ⟨h2.blk, h2.gB, h2.out, h2.inn, h2.mem, h2.trc, h2.inj, h2.mne, h2.lst⟩
  · exact (h3.block _ (lt_of_block h.oc) (type_ne h.oc hc (by decide)) (type_ne h.oc hcm (by decide))).trans h.oc
  · exact (h3.block _ (lt_of_block h.pc) (h.pk k hk) h.pm).trans h.pc
theorem WR.simpN (h : WR w z ob pb U uc s) {x : Cd} {k : Nat} (hk : k < z.n) (hok : SOk z.n s) (hB : z.B ≤ w.heap.size) (hm : memOp x = false)
    (hs : Simp1 w z.B (z.rk k) 4 z.mb s.mem.length z.mc x k (s.regs.getD k []) s.mem w') : WR w' z ob pb U uc (exec1 x s k) ∧ Stp z.B w w' := by
  have := h.simp (x := x) hk hok rfl hB hs
  rw [noAcc_exec hm] at this
  exact this
theorem WR.simpA {q : Acc} (h : WR w z ob pb U uc (addAcc q s)) {x : Cd} {k : Nat} (hk : k < z.n) (hok : SOk z.n s) (hB : z.B ≤ w.heap.size) (hm : memOp x = true)
    (hq : q = ⟨k, (s.reg k x.b % s.mem.length).toNat, x.op == 9, s.phase⟩) (hs : Simp1 w z.B (z.rk k) 4 z.mb s.mem.length z.mc x k (s.regs.getD k []) s.mem w') : WR w' z ob pb U uc (exec1 x s k) ∧ Stp z.B w w' := by
  have := h.simp (x := x) (k := k) (mn := s.mem.length) hk (hok.acc q) rfl hB hs
  rw [addAcc_exec hm hq] at this
  exact this

theorem WR.simpX {x : Cd} {k : Nat} (h : WR w z ob pb U uc (noteA x s k)) (hk : k < z.n) (hok : SOk z.n s) (hB : z.B ≤ w.heap.size)
    (hs : Simp1 w z.B (z.rk k) 4 z.mb s.mem.length z.mc x k (s.regs.getD k []) s.mem w') : WR w' z ob pb U uc (exec1 x s k) ∧ Stp z.B w w' := by
  cases hm : memOp x with
  | true =>
    have e : noteA x s k = addAcc ⟨k, (s.reg k x.b % s.mem.length).toNat, x.op == 9, s.phase⟩ s := by unfold noteA; rw [hm]; rfl
    rw [e] at h
    exact h.simpA hk hok hB hm rfl hs
  | false =>
    have e : noteA x s k = s := by unfold noteA; rw [hm]; rfl
    rw [e] at h
    exact h.simpN hk hok hB hm hs

/-- A store into the cell of the accesses, behind an append. -/
theorem WR.acc_ {wb w2 : World} (h : WR w z ob pb U uc s) (hX : Ext w wb) (hB : z.B ≤ w.heap.size) {q : Acc} {U' : Option Addr} {uc' : Nat} (hg : wb.grownBy w2 (Value.ownBlock (.slice U s.accs.length uc)))
    (ho : OR w2 z.B 118 4 U' (s.accs.length + 1) uc' (accsV s.accs ++ [.int .i64 q.who, .int .i64 q.cell, .bool q.wr, .int .i64 q.ph])) :
    WR (w2.setCell ⟨ob, 0, none⟩ (.slice U' (s.accs.length + 1) uc')) z ob pb U' uc' (addAcc q s) ∧ Stp z.B w (w2.setCell ⟨ob, 0, none⟩ (.slice U' (s.accs.length + 1) uc')) := by
  have hwb := h.ext hX hB
  have kp : ∀ k, k < wb.heap.size → Value.ownBlock (.slice U s.accs.length uc) ≠ some k → w2.heap[k]? = wb.heap[k]? := fun k hk hne => hg.block k hk (fun e => hne e.symm)
  have hblk : w2.heap[ob]? = some (.cells #[.slice U s.accs.length uc] 89 (0, 0)) := (kp _ (lt_of_block hwb.oc) (own_ne hwb.acc hwb.oc (by decide))).trans hwb.oc
  have hbl : (addAcc q s).accs.length = s.accs.length + 1 := by simp [addAcc]
  have hlst : Below z.B wb w2 := ⟨hg.os, hg.tape, hg.output, hg.size, fun k hk => kp k (by have := hX.size; omega) (fun e => by have := (OR.block hwb.acc k e).1; omega)⟩
  have hb2 : Below z.B w (w2.setCell ⟨ob, 0, none⟩ (.slice U' (s.accs.length + 1) uc')) := (((hX.below).mono hB).trans hlst).setCell h.oB _
  have og : ∀ {e size n c : Nat} {A : Option Addr} {xs : List Value}, OR wb z.B e size A n c xs → 118 ≠ e → e ≠ 89 → OR (w2.setCell ⟨ob, 0, none⟩ (.slice U' (s.accs.length + 1) uc')) z.B e size A n c xs := fun ho2 h1 h2 => OR.app_set ho2 hwb.acc h1 hg hblk h2 0 _
  have hst : Stp z.B w (w2.setCell ⟨ob, 0, none⟩ (.slice U' (s.accs.length + 1) uc')) := ⟨hb2, fun i cs hi => heap_app_set hwb.acc hg hblk 0 _ (hX.heap_ hi) (by decide) (by decide)⟩
  have hr := hwb.run
  refine ⟨⟨⟨heap_app_set hwb.acc hg hblk 0 _ hr.blk (by decide) (by decide), hr.gB, og hr.out (by decide) (by decide), fun k hk => og (hr.inn k hk) (by decide) (by decide), og hr.mem (by decide) (by decide), og hr.trc (by decide) (by decide), hr.inj, hr.mne, h.run.lst.below hb2⟩, ?_, heap_app_set hwb.acc hg hblk 0 _ hwb.pc (by decide) (by decide), ?_, h.oB, h.pB, h.pk, h.pm⟩, hst⟩
  · rw [heap_set_same hblk, hbl]
    rfl
  · rw [hbl]
    have e : accsV (addAcc q s).accs = accsV s.accs ++ [.int .i64 q.who, .int .i64 q.cell, .bool q.wr, .int .i64 q.ph] := by
      show accsV (s.accs ++ [q]) = _
      rw [accsV_append]; rfl
    rw [e]
    exact OR.set_other ho (p := ⟨ob, 0, none⟩) (own_ne ho hblk (by decide)) _

/-- A store of the number of barriers. -/
theorem WR.pha (h : WR w z ob pb U uc s) (hB : z.B ≤ w.heap.size) (k : Nat) : WR (w.setCell ⟨pb, 0, none⟩ (.int .i64 k)) z ob pb U uc { s with phase := k } ∧ Stp z.B w (w.setCell ⟨pb, 0, none⟩ (.int .i64 k)) := by
  have hb : Below z.B w (w.setCell ⟨pb, 0, none⟩ (.int .i64 k)) := (Below.refl _ _).setCell h.pB _
  have og : ∀ {e size n c : Nat} {A : Option Addr} {xs : List Value}, OR w z.B e size A n c xs → e ≠ 3 → OR (w.setCell ⟨pb, 0, none⟩ (.int .i64 k)) z.B e size A n c xs := fun ho hne => OR.set_other ho (p := ⟨pb, 0, none⟩) (own_ne ho h.pc hne) _
  have oi : ∀ {b n c : Nat} {xs : List Int}, OI w z.B (some ⟨b, 0, none⟩) n c xs → pb ≠ b → OI (w.setCell ⟨pb, 0, none⟩ (.int .i64 k)) z.B (some ⟨b, 0, none⟩) n c xs := fun ho hne => OR.set_other ho (p := ⟨pb, 0, none⟩) (fun e => hne (by injection e with e; exact e.symm)) _
  have hr := h.run
  refine ⟨⟨⟨(heap_set_other (type_ne hr.blk h.pc (by decide)) _ _).trans hr.blk, hr.gB, og hr.out (by decide), fun j hj => oi (hr.inn j hj) (h.pk j hj), oi hr.mem h.pm, og hr.trc (by decide), hr.inj, hr.mne, hr.lst.below hb⟩, (heap_set_other (type_ne h.oc h.pc (by decide)) _ _).trans h.oc, ?_, og h.acc (by decide), h.oB, h.pB, h.pk, h.pm⟩, hb, fun i cs hi => (heap_set_other (type_ne hi h.pc (by decide)) _ _).trans hi⟩
  rw [heap_set_same h.pc]
  rfl
end

theorem keep_acw {w : World} {g r q c ob pb k xb : Nat} {v v2 v3 v5 vr vq v0 vx : Value} (n1 : ob ≠ g) (n2 : ob ≠ pb) (n3 : ob ≠ r) (n4 : ob ≠ q) (n5 : ob ≠ c)
    (h : w.cell? ⟨g, 2, none⟩ = some v2 ∧ w.cell? ⟨g, 3, none⟩ = some v3 ∧ w.cell? ⟨pb, 0, none⟩ = some v5 ∧ w.cell? ⟨r, k, none⟩ = some vr ∧ w.cell? ⟨q, xb, none⟩ = some vq ∧ w.cell? ⟨c, 0, none⟩ = some v0 ∧ w.cell? ⟨c, 2, none⟩ = some vx) :
    (w.setCell ⟨ob, 0, none⟩ v).cell? ⟨g, 2, none⟩ = some v2 ∧ (w.setCell ⟨ob, 0, none⟩ v).cell? ⟨g, 3, none⟩ = some v3 ∧ (w.setCell ⟨ob, 0, none⟩ v).cell? ⟨pb, 0, none⟩ = some v5 ∧ (w.setCell ⟨ob, 0, none⟩ v).cell? ⟨r, k, none⟩ = some vr ∧
      (w.setCell ⟨ob, 0, none⟩ v).cell? ⟨q, xb, none⟩ = some vq ∧ (w.setCell ⟨ob, 0, none⟩ v).cell? ⟨c, 0, none⟩ = some v0 ∧ (w.setCell ⟨ob, 0, none⟩ v).cell? ⟨c, 2, none⟩ = some vx := by
  obtain ⟨h1, h2, h3, h4, h5, h6, h7⟩ := h
  refine ⟨?_, ?_, ?_, ?_, ?_, ?_, ?_⟩ <;> (rw [World.cell?_setCell_other (h := fun e => by injection e; omega)]; assumption)

end Go.Proofs.YtakeacndmnnbmaaGreat
