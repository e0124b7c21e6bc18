/- Part 13 of what the claim needs. -/
import Derived.Test.YtelbfeidpcojmaaGreatLau7
import Derived.Test.YtelbfeidpcojmaaGreatLau9
import Derived.Test.YtelbfeidpcojmaaGreatLau11
import Derived.Deep.CutRange
namespace Go.Proofs.YtelbfeidpcojmaaGreat
open Go.RowKit
set_option linter.unusedVariables false
set_option linter.unusedSimpArgs false

/-- A state whose steps are not noted. -/
def nbt (s : LS) : LS := { s with beats := [] }
theorem SOk.nbt {n : Nat} {s : LS} (h : SOk n s) : SOk n (nbt s) := ⟨h.n8, h.len, h.four, h.memw, h.mem1, h.mem2⟩
theorem execTo_ph {x : Cd} (hx : memOp x = false) (m : Nat) (s : LS) (ph : Nat) : ∀ k, execTo x m { s with phase := ph } k = { execTo x m s k with phase := ph }
  | 0 => rfl
  | k + 1 => by
    simp only [execTo, execTo_ph hx m s ph k]
    split
    · simp only [exec1, hx]; rfl
    · rfl
/-- The state before the lanes of an instruction: a barrier is counted. -/
def pre10 (x : Cd) (s : LS) : LS := if x.op == 10 then { s with phase := s.phase + 1 } else s
theorem execM_pre {m n : Nat} (h : m < 2 ^ n) (hn : n ≤ 8) (x : Cd) (s : LS) : execM x m s = execTo x m (pre10 x s) n := by
  rw [execM_eq h hn]
  unfold pre10
  cases e : x.op == 10 with
  | false => rfl
  | true =>
    have hm : memOp x = false := by simp [memOp, beq_iff_eq.1 e]
    simp only [if_true]
    rw [execTo_ph hm m s (s.phase + 1) n, execTo_phase]

theorem SOk.pre10 {n : Nat} {s : LS} (h : SOk n s) (x : Cd) : SOk n (pre10 x s) := by
  unfold Proofs.YtelbfeidpcojmaaGreat.pre10
  split
  · exact ⟨h.n8, h.len, h.four, h.memw, h.mem1, h.mem2⟩
  · exact h
theorem pre10_accs (x : Cd) (s : LS) : (pre10 x s).accs = s.accs := by unfold pre10; split <;> rfl
theorem pre10_phase (x : Cd) (s : LS) : (pre10 x s).phase ≤ s.phase + 1 := by
  unfold pre10
  split
  · exact Nat.le_refl _
  · omega
/-- The access of lane k is noted. -/
def noteA (x : Cd) (s : LS) (k : Nat) : LS := if memOp x then addAcc ⟨k, (s.reg k x.b % s.mem.length).toNat, x.op == 9, s.phase⟩ s else s
theorem noteA_regs (x : Cd) (s : LS) (k : Nat) : (noteA x s k).regs = s.regs := by unfold noteA; split <;> rfl
theorem noteA_mem (x : Cd) (s : LS) (k : Nat) : (noteA x s k).mem = s.mem := by unfold noteA; split <;> rfl

structure WR (w : World) (z : SW) (ob pb : Nat) (U : Option Addr) (uc : Nat) (s : LS) : Prop where
  run : SR w z none 0 false (nbt s)
  oc : w.heap[ob]? = some (.cells #[.slice U s.accs.length uc] 95 (0, 0))
  pc : w.heap[pb]? = some (.cells #[.int .i64 s.phase] 3 (0, 0))
  acc : OR w z.B 130 4 U s.accs.length uc (accsV s.accs)
  oB : z.B ≤ ob
  pB : z.B ≤ pb
  pk : ∀ k, k < z.n → pb ≠ z.rk k
  pm : pb ≠ z.mb

section
variable {w w' : World} {z : SW} {ob pb : Nat} {U : Option Addr} {uc : Nat} {s : LS}
theorem WR.ext (h : WR w z ob pb U uc s) (hx : Ext w w') (hB : z.B ≤ w.heap.size) : WR w' z ob pb U uc s :=
  ⟨h.run.ext hx hB, hx.heap_ h.oc, hx.heap_ h.pc, h.acc.ext hx, h.oB, h.pB, h.pk, h.pm⟩
theorem WR.inn (h : WR w z ob pb U uc s) {k : Nat} (hk : k < z.n) : OI w z.B (some ⟨z.rk k, 0, none⟩) 4 4 (s.regs.getD k []) := h.run.inn k hk
theorem WR.mem (h : WR w z ob pb U uc s) : OI w z.B (some ⟨z.mb, 0, none⟩) s.mem.length z.mc s.mem := h.run.mem
theorem WR.cells (h : WR w z ob pb U uc s) : w.cell? ⟨z.g, 0, none⟩ = some (.slice z.A z.l.length z.ca) ∧ w.cell? ⟨z.g, 1, none⟩ = some (.int .i64 z.n) ∧
    w.cell? ⟨z.g, 2, none⟩ = some (.slice (some ⟨z.rg, 0, none⟩) z.n z.rc) ∧ w.cell? ⟨z.g, 3, none⟩ = some (.slice (some ⟨z.mb, 0, none⟩) s.mem.length z.mc) ∧
    w.cell? ⟨ob, 0, none⟩ = some (.slice U s.accs.length uc) ∧ w.cell? ⟨pb, 0, none⟩ = some (.int .i64 s.phase) := by
  obtain ⟨c0, c1, c2, c3, -, -, -⟩ := h.run.cells
  exact ⟨c0, c1, c2, c3, cell_of_heap h.oc 0, cell_of_heap h.pc 0⟩

/-- One instruction of lane k, the accesses left as they are. -/
theorem WR.simp (h : WR w z ob pb U uc s) {x : Cd} {k mn : Nat} (hk : k < z.n) (hok : SOk z.n s) (hmn : mn = s.mem.length) (hB : z.B ≤ w.heap.size)
    (hs : Simp1 w z.B (z.rk k) 4 z.mb mn z.mc x k (s.regs.getD k []) s.mem w') : WR w' z ob pb U uc { s with regs := s.regs.set k (simp1 x k (s.regs.getD k []) s.mem).1, mem := (simp1 x k (s.regs.getD k []) s.mem).2 } ∧ Stp z.B w w' := by
  have h1 := h.run.simp (x := x) hk hok.nbt hmn hB hs
  obtain ⟨-, -, h3⟩ := hs
  obtain ⟨cur, hc⟩ := OR.heap_ (h.run.inn k hk)
  obtain ⟨cum, hcm⟩ := OR.heap_ h.run.mem
  refine ⟨⟨?_, ?_, ?_, h.acc.byType fun b cs hi => (h3.block b (lt_of_block hi) (type_ne hi hc (by decide)) (type_ne hi hcm (by decide))).trans hi, h.oB, h.pB, h.pk, h.pm⟩, h1.2⟩
  · have e : nbt { s with regs := s.regs.set k (simp1 x k (s.regs.getD k []) s.mem).1, mem := (simp1 x k (s.regs.getD k []) s.mem).2 } = { exec1 x (nbt s) k with accs := s.accs } := rfl
    rw [e]
    have h2 := h1.1
    exact ⟨h2.blk, h2.gB, h2.out, h2.inn, h2.mem, h2.trc, h2.inj, h2.mne, h2.lst⟩
  · exact (h3.block _ (lt_of_block h.oc) (type_ne h.oc hc (by decide)) (type_ne h.oc hcm (by decide))).trans h.oc
  · exact (h3.block _ (lt_of_block h.pc) (h.pk k hk) h.pm).trans h.pc
theorem WR.simpN (h : WR w z ob pb U uc s) {x : Cd} {k : Nat} (hk : k < z.n) (hok : SOk z.n s) (hB : z.B ≤ w.heap.size) (hm : memOp x = false)
    (hs : Simp1 w z.B (z.rk k) 4 z.mb s.mem.length z.mc x k (s.regs.getD k []) s.mem w') : WR w' z ob pb U uc (exec1 x s k) ∧ Stp z.B w w' := by
  have := h.simp (x := x) hk hok rfl hB hs
  rw [noAcc_exec hm] at this
  exact this
theorem WR.simpA {q : Acc} (h : WR w z ob pb U uc (addAcc q s)) {x : Cd} {k : Nat} (hk : k < z.n) (hok : SOk z.n s) (hB : z.B ≤ w.heap.size) (hm : memOp x = true)
    (hq : q = ⟨k, (s.reg k x.b % s.mem.length).toNat, x.op == 9, s.phase⟩) (hs : Simp1 w z.B (z.rk k) 4 z.mb s.mem.length z.mc x k (s.regs.getD k []) s.mem w') : WR w' z ob pb U uc (exec1 x s k) ∧ Stp z.B w w' := by
  have := h.simp (x := x) (k := k) (mn := s.mem.length) hk (hok.acc q) rfl hB hs
  rw [addAcc_exec hm hq] at this
  exact this

theorem WR.simpX {x : Cd} {k : Nat} (h : WR w z ob pb U uc (noteA x s k)) (hk : k < z.n) (hok : SOk z.n s) (hB : z.B ≤ w.heap.size)
    (hs : Simp1 w z.B (z.rk k) 4 z.mb s.mem.length z.mc x k (s.regs.getD k []) s.mem w') : WR w' z ob pb U uc (exec1 x s k) ∧ Stp z.B w w' := by
  cases hm : memOp x with
  | true =>
    have e : noteA x s k = addAcc ⟨k, (s.reg k x.b % s.mem.length).toNat, x.op == 9, s.phase⟩ s := by unfold noteA; rw [hm]; rfl
    rw [e] at h
    exact h.simpA hk hok hB hm rfl hs
  | false =>
    have e : noteA x s k = s := by unfold noteA; rw [hm]; rfl
    rw [e] at h
    exact h.simpN hk hok hB hm hs

/-- A store into the cell of the accesses, behind an append. -/
theorem WR.acc_ {wb w2 : World} (h : WR w z ob pb U uc s) (hX : Ext w wb) (hB : z.B ≤ w.heap.size) {q : Acc} {U' : Option Addr} {uc' : Nat} (hg : wb.grownBy w2 (Value.ownBlock (.slice U s.accs.length uc)))
    (ho : OR w2 z.B 130 4 U' (s.accs.length + 1) uc' (accsV s.accs ++ [.int .i64 q.who, .int .i64 q.cell, .bool q.wr, .int .i64 q.ph])) :
    WR (w2.setCell ⟨ob, 0, none⟩ (.slice U' (s.accs.length + 1) uc')) z ob pb U' uc' (addAcc q s) ∧ Stp z.B w (w2.setCell ⟨ob, 0, none⟩ (.slice U' (s.accs.length + 1) uc')) := by
  have hwb := h.ext hX hB
  have kp : ∀ k, k < wb.heap.size → Value.ownBlock (.slice U s.accs.length uc) ≠ some k → w2.heap[k]? = wb.heap[k]? := fun k hk hne => hg.block k hk (fun e => hne e.symm)
  have hblk : w2.heap[ob]? = some (.cells #[.slice U s.accs.length uc] 95 (0, 0)) := (kp _ (lt_of_block hwb.oc) (own_ne hwb.acc hwb.oc (by decide))).trans hwb.oc
  have hbl : (addAcc q s).accs.length = s.accs.length + 1 := by simp [addAcc]
  have hlst : Below z.B wb w2 := ⟨hg.os, hg.tape, hg.output, hg.size, fun k hk => kp k (by have := hX.size; omega) (fun e => by have := (OR.block hwb.acc k e).1; omega)⟩
  have hb2 : Below z.B w (w2.setCell ⟨ob, 0, none⟩ (.slice U' (s.accs.length + 1) uc')) := (((hX.below).mono hB).trans hlst).setCell h.oB _
  have og : ∀ {e size n c : Nat} {A : Option Addr} {xs : List Value}, OR wb z.B e size A n c xs → 130 ≠ e → e ≠ 95 → OR (w2.setCell ⟨ob, 0, none⟩ (.slice U' (s.accs.length + 1) uc')) z.B e size A n c xs := fun ho2 h1 h2 => OR.app_set ho2 hwb.acc h1 hg hblk h2 0 _
  have hst : Stp z.B w (w2.setCell ⟨ob, 0, none⟩ (.slice U' (s.accs.length + 1) uc')) := ⟨hb2, fun i cs hi => heap_app_set hwb.acc hg hblk 0 _ (hX.heap_ hi) (by decide) (by decide)⟩
  have hr := hwb.run
  refine ⟨⟨⟨heap_app_set hwb.acc hg hblk 0 _ hr.blk (by decide) (by decide), hr.gB, og hr.out (by decide) (by decide), fun k hk => og (hr.inn k hk) (by decide) (by decide), og hr.mem (by decide) (by decide), og hr.trc (by decide) (by decide), hr.inj, hr.mne, h.run.lst.below hb2⟩, ?_, heap_app_set hwb.acc hg hblk 0 _ hwb.pc (by decide) (by decide), ?_, h.oB, h.pB, h.pk, h.pm⟩, hst⟩
  · rw [heap_set_same hblk, hbl]
    rfl
  · rw [hbl]
    have e : accsV (addAcc q s).accs = accsV s.accs ++ [.int .i64 q.who, .int .i64 q.cell, .bool q.wr, .int .i64 q.ph] := by
      show accsV (s.accs ++ [q]) = _
      rw [accsV_append]; rfl
    rw [e]
    exact OR.set_other ho (p := ⟨ob, 0, none⟩) (own_ne ho hblk (by decide)) _

/-- A store of the number of barriers. -/
theorem WR.pha (h : WR w z ob pb U uc s) (hB : z.B ≤ w.heap.size) (k : Nat) : WR (w.setCell ⟨pb, 0, none⟩ (.int .i64 k)) z ob pb U uc { s with phase := k } ∧ Stp z.B w (w.setCell ⟨pb, 0, none⟩ (.int .i64 k)) := by
  have hb : Below z.B w (w.setCell ⟨pb, 0, none⟩ (.int .i64 k)) := (Below.refl _ _).setCell h.pB _
  have og : ∀ {e size n c : Nat} {A : Option Addr} {xs : List Value}, OR w z.B e size A n c xs → e ≠ 3 → OR (w.setCell ⟨pb, 0, none⟩ (.int .i64 k)) z.B e size A n c xs := fun ho hne => OR.set_other ho (p := ⟨pb, 0, none⟩) (own_ne ho h.pc hne) _
  have oi : ∀ {b n c : Nat} {xs : List Int}, OI w z.B (some ⟨b, 0, none⟩) n c xs → pb ≠ b → OI (w.setCell ⟨pb, 0, none⟩ (.int .i64 k)) z.B (some ⟨b, 0, none⟩) n c xs := fun ho hne => OR.set_other ho (p := ⟨pb, 0, none⟩) (fun e => hne (by injection e with e; exact e.symm)) _
  have hr := h.run
  refine ⟨⟨⟨(heap_set_other (type_ne hr.blk h.pc (by decide)) _ _).trans hr.blk, hr.gB, og hr.out (by decide), fun j hj => oi (hr.inn j hj) (h.pk j hj), oi hr.mem h.pm, og hr.trc (by decide), hr.inj, hr.mne, hr.lst.below hb⟩, (heap_set_other (type_ne h.oc h.pc (by decide)) _ _).trans h.oc, ?_, og h.acc (by decide), h.oB, h.pB, h.pk, h.pm⟩, hb, fun i cs hi => (heap_set_other (type_ne hi h.pc (by decide)) _ _).trans hi⟩
  rw [heap_set_same h.pc]
  rfl
end

theorem keep_acw {w : World} {g r q c ob pb k xb : Nat} {v v2 v3 v5 vr vq v0 vx : Value} (n1 : ob ≠ g) (n2 : ob ≠ pb) (n3 : ob ≠ r) (n4 : ob ≠ q) (n5 : ob ≠ c)
    (h : w.cell? ⟨g, 2, none⟩ = some v2 ∧ w.cell? ⟨g, 3, none⟩ = some v3 ∧ w.cell? ⟨pb, 0, none⟩ = some v5 ∧ w.cell? ⟨r, k, none⟩ = some vr ∧ w.cell? ⟨q, xb, none⟩ = some vq ∧ w.cell? ⟨c, 0, none⟩ = some v0 ∧ w.cell? ⟨c, 2, none⟩ = some vx) :
    (w.setCell ⟨ob, 0, none⟩ v).cell? ⟨g, 2, none⟩ = some v2 ∧ (w.setCell ⟨ob, 0, none⟩ v).cell? ⟨g, 3, none⟩ = some v3 ∧ (w.setCell ⟨ob, 0, none⟩ v).cell? ⟨pb, 0, none⟩ = some v5 ∧ (w.setCell ⟨ob, 0, none⟩ v).cell? ⟨r, k, none⟩ = some vr ∧
      (w.setCell ⟨ob, 0, none⟩ v).cell? ⟨q, xb, none⟩ = some vq ∧ (w.setCell ⟨ob, 0, none⟩ v).cell? ⟨c, 0, none⟩ = some v0 ∧ (w.setCell ⟨ob, 0, none⟩ v).cell? ⟨c, 2, none⟩ = some vx := by
  obtain ⟨h1, h2, h3, h4, h5, h6, h7⟩ := h
  refine ⟨?_, ?_, ?_, ?_, ?_, ?_, ?_⟩ <;> (rw [World.cell?_setCell_other (h := fun e => by injection e; omega)]; assumption)

/-- What a call of watch leaves. -/
def WatchPost (w : World) (z : SW) (ob pb : Nat) (b : Blk) (p m : Nat) (s : LS) (e : Ending) (w' : World) : Prop :=
  e = .returned (.tuple #[]) ∧ ∃ U uc, WR w' z ob pb U uc (b.run p m s) ∧ Stp z.B w w'

def WKRel (w : World) (z : SW) (ob pb : Nat) (b : Blk) (d p m te : Nat) (s : LS) (rest : List Cd) (kv : Value) (wr : World) : Prop :=
  ∃ (r : Blk) (q : Nat) (U : Option Addr) (uc : Nat) (s1 : LS), kv = .int .i64 q ∧ Hid (z.l.drop q = r.flat ++ rest ∧ q + r.flat.length = te ∧ r.ok d ∧ b.run p m s = r.run q m s1) ∧ q ≤ te ∧
    WR wr z ob pb U uc s1 ∧ SOk z.n s1 ∧ Bd s1 ∧ s1.beats.length + r.wt ≤ 1000000000 ∧ r.flat.length ≤ b.flat.length ∧ Stp z.B w wr

def WPRel (w : World) (z : SW) (ob pb cb : Nat) (a c : Int) (cn : Nat) (t : Blk) (q m : Nat) (s0 : LS) (rw : Nat) (tv lv : Value) (wl : World) : Prop :=
  ∃ (j mj : Nat) (U : Option Addr) (uc : Nat) (sj : LS), j ≤ cn ∧ tv = .int .i64 j ∧ lv = .int .i64 (onesOf mj a sj) ∧ Hid (mj < 2 ^ z.n) ∧
    Hid (turnsOf (fun m s => t.run (q + 1) m s) a cn m s0 = turnsOf (fun m s => t.run (q + 1) m s) a (cn - j) mj sj) ∧
    WR wl z ob pb U uc sj ∧ SOk z.n sj ∧ Bd sj ∧ sj.beats.length + (cn - j) * t.wt + rw ≤ 1000000000 ∧ Hid (wl.heap[cb]? = some (.cells #[.int .i64 13, .int .i64 a, .int .i64 c, .int .i64 0] 76 (0, 0))) ∧ Stp z.B w wl

set_option maxRecDepth 100000 in
set_option maxHeartbeats 16000000 in
theorem watch_none (g ob pb : Addr) (fi ti mi : Int) (w : World) (h : ti ≤ fi) :
    Calls Tryz.prog 151 #[.pointer (some g), .int .i64 fi, .int .i64 ti, .int .i64 mi, .pointer (some ob), .pointer (some pb)] w fun e w' => e = .returned (.tuple #[]) ∧ w = w' := by
  go_enter Tryz.func151, Tryz.ntmps151
  go_wp2
  go_loopw [12] (fun kv wr => kv = .int .i64 fi ∧ wr = w) (fun _ _ => 0)
  case atStart => exact ⟨rfl, rfl⟩
  case round =>
    obtain ⟨rfl, rfl⟩ := hrel
    go_wp2
    go_end0
    exact ⟨rfl, rfl⟩

set_option maxRecDepth 100000 in
set_option maxHeartbeats 16000000 in
theorem watch_c (N : Nat) : ∀ (b : Blk) (d : Nat), b.flat.length ≤ N → b.ok d → ∀ (w : World) (z : SW) (ob pb : Nat) (U : Option Addr) (uc : Nat) (s : LS) (p m te : Nat) (fi ti mi : Int) (rest : List Cd),
    WR w z ob pb U uc s → SOk z.n s → Bd s → m < 2 ^ z.n → z.l.drop p = b.flat ++ rest → p + b.flat.length = te → z.l.length ≤ 1000000000 → te ≤ z.l.length → z.B ≤ w.heap.size → s.beats.length + b.wt ≤ 1000000000 → (∀ x ∈ z.l, cvOk x = true) →
    fi = p → ti = te → mi = m →
    Calls Tryz.prog 151 #[.pointer (some ⟨z.g, 0, none⟩), .int .i64 fi, .int .i64 ti, .int .i64 mi, .pointer (some ⟨ob, 0, none⟩), .pointer (some ⟨pb, 0, none⟩)] w (WatchPost w z ob pb b p m s) := by
  induction N using Nat.strongRecOn with
  | ind N IH =>
  intro b d hbN hbd' w z ob pb U uc s p m te fi ti mi rest hS hok hbd hm hdrop hte hl hle hB hwt hval hfi hti hmi
  subst hfi hti hmi
  have n8 := hok.n8
  have HIH := Lib.hid IH
  have HV := Lib.hid hval
  have m256 : m < 256 := Nat.lt_of_lt_of_le hm (Nat.pow_le_pow_right (by decide) n8)
  have HM := Lib.hid hm
  have HTE := Lib.hid hte
  have hpt : p ≤ te := by omega
  have HD := Lib.hid hdrop
  clear IH hval hm hte hdrop
  go_enter Tryz.func151, Tryz.ntmps151
  go_wp2
  go_loopw [12] (fun kv wr => WKRel w z ob pb b d p m te s rest kv wr) (fun kv _ => te - (intOf kv).toNat)
  case atStart => exact ⟨b, p, U, uc, s, rfl, Lib.hid ⟨HD.out, HTE.out, hbd', rfl⟩, hpt, hS, hok, hbd, hwt, Nat.le_refl _, Stp.refl _ _⟩
  case round =>
    clear hS hok hbd hwt
    obtain ⟨r, q, U, uc, s1, rfl, HQ, hqt, hS, hok, hbd, hwt, hrl, hst⟩ := hrel
    have hsz := hst.size
    by_cases hlt : q < te
    · by_cases hm0 : m = 0
      · subst hm0
        have h0 : (((0 : Nat) : Int) != 0) = false := by simp
        go_wp2
        go_end0
        have hq := HQ.out
        have e : b.run p 0 s = s1 := by rw [hq.2.2.2, run_zero]
        exact ⟨rfl, U, uc, by rw [e]; exact hS, hst⟩
      · have h0 : ((m : Int) != 0) = true := by rw [bne_iff_ne]; omega
        obtain ⟨c0, c1, c2, c3, c4, c5⟩ := hS.cells
        have hBr : z.B ≤ wr.heap.size := by omega
        obtain ⟨lb, off, x, hA, hbB, hx, l0, l1, l2, l3⟩ := hS.run.lst.at_ (show q < z.l.length by omega)
        rw [hA] at c0
        have HX := Lib.hid hx
        have HA := Lib.hid hA
        have hgl := hS.run.glt
        have hql : (q : Int) < (z.l.length : Int) := by omega
        have hql2 : q < z.l.length := by omega
        have hbl : s1.beats.length ≤ 1000000000 := by omega
        have hbB2 : lb < wr.heap.size := by omega
        have hX1 := Ext.alloc wr (.cells #[.int .i64 x.op, .int .i64 x.a, .int .i64 x.b, .int .i64 x.c] 76)
        have HB4 := Lib.hid (heap_alloc_new wr (.cells #[.int .i64 x.op, .int .i64 x.a, .int .i64 x.b, .int .i64 x.c] 76))
        have HS4 := Lib.hid (hS.ext hX1 hBr)
        have HST := Lib.hid (hst.trans (Stp.of_ext hX1 hBr))
        clear hx hA hm0 c2 c3 c4 c5 hX1
        go_wp2_with fail
        refine (l4Opens_c x _).mono ?_
        rintro e w5 ⟨rfl, hb5⟩
        have hX5 := Ext.of_below hb5
        have hBr4 : z.B ≤ (wr.alloc (.cells #[.int .i64 x.op, .int .i64 x.a, .int .i64 x.b, .int .i64 x.c] 76)).heap.size := by simp; omega
        have hS5 := HS4.out.ext hX5 hBr4
        have hst5 := HST.out.trans (Stp.of_ext hX5 hBr4)
        have HB5 := Lib.hid (hX5.heap_ HB4.out)
        have hok5 := hok.beat q m
        have hs5 := hst5.size
        clear HB4 HS4 HST hb5 hX5 c0 c1 l0 l1 l2 l3 hBr4 hst hS
        cases r with
        | nil =>
          have hq := HQ.out
          simp [Blk.flat] at hq
          omega
        | op x' r' =>
          have hq := HQ.out
          obtain ⟨hq1, hq2, hq3, hq4⟩ := hq
          obtain ⟨hvx, h1x, h10x, hr'⟩ := hq3
          have hdr := drop_cons hq1
          obtain rfl : x = x' := by have h := HX.out; rw [hdr.1] at h; injection h with h; exact h.symm
          have hop : opB x = false := by simp [opB]; omega
          have hrun : Blk.run (.op x r') q m s1 = r'.run (q + 1) m (execM x m (beat q m s1)) := by
            simp only [Blk.run]; rw [if_neg (by intro e; subst e; simp at h0)]
          have HR := Lib.hid (And.intro (hq4.trans hrun) (And.intro hdr.2.1 (And.intro (show q + 1 + r'.flat.length = te by simp [Blk.flat] at hq2; omega) hr')))
          have hwt' : s1.beats.length + 1 + r'.wt ≤ 1000000000 := by simp only [Blk.wt] at hwt; omega
          have hrl' : r'.flat.length ≤ b.flat.length := by simp [Blk.flat] at hrl; omega
          have hqt' : q + 1 ≤ te := by omega
          have HEX := Lib.hid (execM_pre HM.out n8 x (beat q m s1))
          have hbdE := hbd.op x q m
          have hwtE : (execM x m (beat q m s1)).beats.length + r'.wt ≤ 1000000000 := by rw [execM_beats]; simpa [beat] using hwt'
          generalize execM x m (beat q m s1) = sE at HEX HR hbdE hwtE
          have hb1 : s1.accs.length ≤ 8 * s1.beats.length := hbd.1
          have hb2' : s1.phase ≤ s1.beats.length := hbd.2
          clear hq1 hq2 hq4 hdr hrun hr' hwt hrl HQ
          rw [hop]
          clear hop
          obtain ⟨c0, c1, c2, c3, c4, c5⟩ := hS5.cells
          have d0 := cell_of_heap HB5.out 0
          have d1 := cell_of_heap HB5.out 1
          have d2 := cell_of_heap HB5.out 2
          have d3 := cell_of_heap HB5.out 3
          have hbw5 : wr.heap.size < w5.heap.size := lt_of_block HB5.out
          rw [HA.out] at c0
          replace hS5 : WR w5 z ob pb U uc (beat q m s1) := ⟨hS5.run, hS5.oc, hS5.pc, hS5.acc, hS5.oB, hS5.pB, hS5.pk, hS5.pm⟩
          go_upto_if 102 with (fail)
          go_cut [] from 20 to 175 (fun wx => WR wx z ob pb U uc (pre10 x (beat q m s1)) ∧ Hid (wx.heap[wr.heap.size]? = some (.cells #[.int .i64 x.op, .int .i64 x.a, .int .i64 x.b, .int .i64 x.c] 76 (0, 0))) ∧ Stp z.B w wx)
          case first =>
            cases e10 : x.op == 10 with
            | false =>
              have hpre : pre10 x (beat q m s1) = beat q m s1 := by simp [pre10, e10]
              have HPRE := Lib.hid hpre
              clear hpre
              clear c0 c1 c2 c3 c4 c5 d0 d1 d2 d3
              go_wp2_with fail
              go_meet
              exact ⟨by rw [HPRE.out]; exact hS5, HB5, hst5⟩
            | true =>
              have hpre : pre10 x (beat q m s1) = { beat q m s1 with phase := s1.phase + 1 } := by simp [pre10, e10, beat]
              have HPRE := Lib.hid hpre
              clear hpre
              have hwp : IntKind.i64.wrap ((s1.phase : Int) + 1) = (s1.phase : Int) + 1 := IntWalk.i64_in _ (by omega)
              have f5 := free_of_heap hS5.pc 0
              have hph := hS5.pha (show z.B ≤ w5.heap.size by omega) (s1.phase + 1)
              rw [show ((s1.phase + 1 : Nat) : Int) = (s1.phase : Int) + 1 from rfl] at hph
              have HPH := Lib.hid hph
              clear hph hS5
              go_wp2_with fail
              go_meet
              obtain ⟨hS8, hst8⟩ := HPH.out
              exact ⟨by rw [HPRE.out]; exact hS8, Lib.hid (hst8.code _ _ HB5.out), hst5.trans hst8⟩
          case rest =>
          clear hS5 HB5 hst5 hs5 hbw5 c0 c1 c2 c3 c4 c5 d0 d1 d2 d3
          obtain ⟨hS5, HB5, hst5⟩ := hcut
          have hs5 := hst5.size
          have hbw5 : wr.heap.size < wc.heap.size := lt_of_block HB5.out
          replace hok5 : SOk z.n (pre10 x (beat q m s1)) := hok5.pre10 x
          obtain ⟨c0, c1, c2, c3, c4, c5⟩ := hS5.cells
          have d0 := cell_of_heap HB5.out 0
          have d1 := cell_of_heap HB5.out 1
          have d2 := cell_of_heap HB5.out 2
          have d3 := cell_of_heap HB5.out 3
          have hs2a : (pre10 x (beat q m s1)).accs.length ≤ 8000000000 := by rw [pre10_accs]; show s1.accs.length ≤ _; omega
          have hs2p : (pre10 x (beat q m s1)).phase ≤ 1000000001 := by have := pre10_phase x (beat q m s1); have e : (beat q m s1).phase = s1.phase := rfl; omega
          generalize pre10 x (beat q m s1) = s2 at hS5 hok5 HEX hs2a hs2p c0 c1 c2 c3 c4 c5
          go_wp2
          clear c0 c1 c2 c3 c4 c5 d0 d1 d2 d3
          obtain ⟨wo, rfl⟩ : ∃ wo : World, wo = wr := ⟨_, rfl⟩
          go_loopw [18] (fun nv wn => ∃ (k : Nat) (Uk : Option Addr) (uck : Nat), k ≤ z.n ∧ nv = .int .i64 k ∧ WR wn z ob pb Uk uck (execTo x m s2 k) ∧ SOk z.n (execTo x m s2 k) ∧ Hid (wn.heap[wo.heap.size]? = some (.cells #[.int .i64 x.op, .int .i64 x.a, .int .i64 x.b, .int .i64 x.c] 76 (0, 0))) ∧ Stp z.B w wn) (fun nv _ => z.n - (intOf nv).toNat)
          case atStart => exact ⟨0, _, _, Nat.zero_le _, rfl, hS5, hok5, HB5, hst5⟩
          case round =>
            clear hS5 hok5 HB5 hst5 hs5 hbw5
            obtain ⟨k, Uk, uck, hk, rfl, hSn, hokn, HBn, hstn⟩ := hrel
            obtain ⟨c0, c1, c2, c3, c4, c5⟩ := hSn.cells
            have hakn := execTo_acc x m s2 k
            have hphn := execTo_phase x m s2 k
            by_cases hkn : k < z.n
            · have hbt := bit_tm m k
              have hex1 : execTo x m s2 (k + 1) = if m.testBit k then exec1 x (execTo x m s2 k) k else execTo x m s2 k := rfl
              have HE1 := Lib.hid hex1
              clear hex1
              generalize execTo x m s2 k = sk at *
              have hphb : sk.phase ≤ 1000000001 := by omega
              clear hphn
              cases hb : m.testBit k with
              | false =>
                rw [hb] at hbt
                have HB := Lib.hid hb
                clear hb c0 c2 c3 c4 c5
                go_wp2
                go_roundw
                case rel => exact ⟨k + 1, _, _, by omega, by go_num, by rw [HE1.out, HB.out]; exact hSn, by rw [HE1.out, HB.out]; exact hokn, HBn, hstn⟩
                case measure => simp [intOf]; omega
              | true =>
                rw [hb] at hbt
                have HB := Lib.hid hb
                have hrow := hSn.run.rowAt hkn
                have d0 := cell_of_heap HBn.out 0
                have d1 := cell_of_heap HBn.out 1
                have d2 := cell_of_heap HBn.out 2
                have d3 := cell_of_heap HBn.out 3
                have hkI : (k : Int) < (z.n : Int) := by omega
                have hszn := hstn.size
                have hBn : z.B ≤ wr.heap.size := by omega
                clear hb c0
                go_upto_region 24 with (fail)
                go_cut [129] from 109 to 175 (fun v wx => v = .bool (memOp x) ∧ wr = wx)
                case first =>
                  have h3 : ((x.op == 8) = true ∧ memOp x = true) ∨ ((x.op == 8) = false ∧ (x.op == 9) = true ∧ memOp x = true) ∨ ((x.op == 8) = false ∧ (x.op == 9) = false ∧ memOp x = false) := by
                    unfold memOp
                    cases (x.op == 8) <;> cases (x.op == 9) <;> simp
                  clear c1 c2 c3 c4 c5 hrow
                  rcases h3 with ⟨e8, em⟩ | ⟨e8, e9, em⟩ | ⟨e8, e9, em⟩
                  · have HEM := Lib.hid em
                    clear em
                    go_wp2_with fail
                    go_meet
                    exact ⟨by rw [HEM.out], rfl⟩
                  · have HEM := Lib.hid em
                    clear em
                    go_wp2_with fail
                    go_meet
                    exact ⟨by rw [HEM.out], rfl⟩
                  · have HEM := Lib.hid em
                    clear em
                    go_wp2_with fail
                    go_meet
                    exact ⟨by rw [HEM.out], rfl⟩
                case rest =>
                obtain ⟨rfl, hwc⟩ := hcut
                subst hwc
                go_upto_if 129 with (fail)
                go_cut [] from 109 to 175 (fun wx => ∃ (U' : Option Addr) (uc' : Nat), WR wx z ob pb U' uc' (noteA x sk k) ∧ Hid (wx.heap[wo.heap.size]? = some (.cells #[.int .i64 x.op, .int .i64 x.a, .int .i64 x.b, .int .i64 x.c] 76 (0, 0))) ∧ Stp z.B w wx)
                case first =>
                  cases hmo : memOp x with
                  | false =>
                    have hna : noteA x sk k = sk := by unfold noteA; rw [hmo]; rfl
                    have HNA := Lib.hid hna
                    clear hna hmo c1 c2 c3 c4 c5 hrow d0 d1 d2 d3
                    go_wp2_with fail
                    go_meet
                    exact ⟨_, _, by rw [HNA.out]; exact hSn, HBn, hstn⟩
                  | true =>
                    have hrg := hokn.get hkn
                    have hb2 := cvOk_b2 hvx (show x.op = 3 ∨ x.op = 4 ∨ x.op = 5 ∨ x.op = 6 ∨ x.op = 7 ∨ x.op = 8 ∨ x.op = 9 by
                      simp [memOp] at hmo; omega)
                    obtain ⟨xb, hxb⟩ := Int.eq_ofNat_of_zero_le hb2.1
                    have hreg := (OI.at0 (hSn.inn hkn)).1 xb _ (rg_get hrg.1 (show xb ≤ 3 by omega))
                    have hrw := rg_word hrg.2 (xb : Int)
                    have hm1 := hokn.mem1
                    have hm2 := hokn.mem2
                    have hxb4 : (xb : Int) < 4 := by omega
                    obtain ⟨rv, hrv⟩ := Int.eq_ofNat_of_zero_le hrw.1
                    have hmod : Int.tmod (rg (sk.regs.getD k []) xb) (sk.mem.length : Int) = ((rv % sk.mem.length : Nat) : Int) := by rw [hrv, Int.tmod_eq_emod_of_nonneg (by omega)]; omega
                    have hkm : rv % sk.mem.length < sk.mem.length := Nat.mod_lt _ (by omega)
                    have hwr : IntKind.i64.wrap (Int.tmod (rg (sk.regs.getD k []) xb) (sk.mem.length : Int)) = ((rv % sk.mem.length : Nat) : Int) := by rw [hmod]; exact IntWalk.i64_in _ (by omega)
                    have hna : noteA x sk k = addAcc ⟨k, rv % sk.mem.length, x.op == 9, sk.phase⟩ sk := by
                      have e : (sk.reg k x.b % sk.mem.length).toNat = rv % sk.mem.length := by unfold LS.reg; rw [hxb, hrv]; omega
                      unfold noteA
                      rw [hmo, if_pos rfl, e]
                    have HNA := Lib.hid hna
                    clear hna
                    generalize hcell : rv % sk.mem.length = cell at *
                    have hmnz : ¬ sk.mem.length = 0 := by omega
                    rw [hxb] at d2
                    clear hxb hcell hrv hkm hrw hmo
                    generalize rg (sk.regs.getD k []) (xb : Int) = rb at *
                    obtain ⟨q9, hq9⟩ : ∃ q9, (x.op == 9) = q9 := ⟨_, rfl⟩
                    rw [hq9] at HNA
                    have HA := Lib.hid (hSn.acc.alloc (.cells #[.int .i64 k, .int .i64 cell, .bool q9, .int .i64 sk.phase] 130))
                    have hal : sk.accs.length ≤ 1000000000000 - 1 := by omega
                    have HI := Lib.hid hSn
                    clear hm1 hm2 hrg
                    obtain ⟨i0, hi0, hz0, hz1, hz2⟩ := info_parts infoAcc
                    have hX := Ext.alloc wr (.cells #[.int .i64 k, .int .i64 cell, .bool q9, .int .i64 sk.phase] 130)
                    have HF := Lib.hid (fun (U' : Option Addr) (uc' : Nat) (w3 : World) (hg : (wr.alloc (.cells #[.int .i64 k, .int .i64 cell, .bool q9, .int .i64 sk.phase] 130)).grownBy w3 (Value.ownBlock (.slice Uk sk.accs.length uck))) (ho : OR w3 z.B 130 4 U' (sk.accs.length + 1) uc' (accsV sk.accs ++ [.int .i64 k, .int .i64 cell, .bool q9, .int .i64 sk.phase])) => HI.out.acc_ (q := ⟨k, cell, q9, sk.phase⟩) hX hBn hg ho)
                    have hnew := heap_alloc_new wr (.cells #[.int .i64 k, .int .i64 cell, .bool q9, .int .i64 sk.phase] 130)
                    have HOR := Lib.hid (OR.drew HA.out)
                    have hobl := lt_of_block HI.out.oc
                    have HCL := Lib.hid (show ∀ w3 : World, (wr.alloc (.cells #[.int .i64 k, .int .i64 cell, .bool q9, .int .i64 sk.phase] 130)).grownBy w3 (Value.ownBlock (.slice Uk sk.accs.length uck)) →
                        w3.cell? ⟨z.g, 2, none⟩ = some (.slice (some ⟨z.rg, 0, none⟩) z.n z.rc) ∧ w3.cell? ⟨z.g, 3, none⟩ = some (.slice (some ⟨z.mb, 0, none⟩) sk.mem.length z.mc) ∧ w3.cell? ⟨pb, 0, none⟩ = some (.int .i64 sk.phase) ∧
                        w3.cell? ⟨z.rg, k, none⟩ = some (.slice (some ⟨z.rk k, 0, none⟩) 4 4) ∧ w3.cell? ⟨z.rk k, xb, none⟩ = some (.int .i64 rb) ∧ w3.cell? ⟨wo.heap.size, 0, none⟩ = some (.int .i64 x.op) ∧ w3.cell? ⟨wo.heap.size, 2, none⟩ = some (.int .i64 xb) ∧
                        w3.frozen? ⟨ob, 0, none⟩ = false ∧ w3.cell? ⟨ob, 0, none⟩ = some (.slice Uk sk.accs.length uck) from fun w3 hg => by
                      have b1 := hX.heap_ HI.out.run.blk
                      obtain ⟨cu2, b2⟩ := OR.heap_ HI.out.run.out
                      replace b2 := hX.heap_ b2
                      obtain ⟨cu3, b3⟩ := OR.heap_ (HI.out.inn hkn)
                      replace b3 := hX.heap_ b3
                      have b4 := hX.heap_ HBn.out
                      have b5 := hX.heap_ HI.out.pc
                      have b6 := hX.heap_ HI.out.oc
                      refine ⟨?_, ?_, ?_, ?_, ?_, ?_, ?_, grown_free HA.out hg b6 (by decide) 0, ?_⟩
                      · rw [grown_cell HA.out hg b1 (by decide)]; exact hX.cell c2
                      · rw [grown_cell HA.out hg b1 (by decide)]; exact hX.cell c3
                      · rw [grown_cell HA.out hg b5 (by decide)]; exact hX.cell c5
                      · rw [grown_cell HA.out hg b2 (by decide)]; exact hX.cell hrow
                      · rw [grown_cell HA.out hg b3 (by decide)]; exact hX.cell hreg
                      · rw [grown_cell HA.out hg b4 (by decide)]; exact hX.cell d0
                      · rw [grown_cell HA.out hg b4 (by decide)]; exact hX.cell d2
                      · rw [grown_cell HA.out hg b6 (by decide)]; exact hX.cell c4)
                    have n1 : ob ≠ z.g := type_ne HI.out.oc HI.out.run.blk (by decide)
                    have n2 : ob ≠ pb := type_ne HI.out.oc HI.out.pc (by decide)
                    have n3 : ob ≠ z.rg := by
                      obtain ⟨cu2, b2⟩ := OR.heap_ HI.out.run.out
                      exact type_ne HI.out.oc b2 (by decide)
                    have n4 : ob ≠ z.rk k := by
                      obtain ⟨cu2, b2⟩ := OR.heap_ (HI.out.inn hkn)
                      exact type_ne HI.out.oc b2 (by decide)
                    have n5 : ob ≠ wo.heap.size := type_ne HI.out.oc HBn.out (by decide)
                    clear hX hSn
                    go_wp2_with fail
                    refine wp_region_held_drew (S := (fun w' => w'.cell? ⟨z.g, 2, none⟩ = some (.slice (some ⟨z.rg, 0, none⟩) z.n z.rc) ∧ w'.cell? ⟨z.g, 3, none⟩ = some (.slice (some ⟨z.mb, 0, none⟩) sk.mem.length z.mc) ∧ w'.cell? ⟨pb, 0, none⟩ = some (.int .i64 sk.phase) ∧ w'.cell? ⟨z.rg, k, none⟩ = some (.slice (some ⟨z.rk k, 0, none⟩) 4 4) ∧ w'.cell? ⟨z.rk k, xb, none⟩ = some (.int .i64 rb) ∧ w'.cell? ⟨wo.heap.size, 0, none⟩ = some (.int .i64 x.op) ∧ w'.cell? ⟨wo.heap.size, 2, none⟩ = some (.int .i64 xb))) (by kernel_rfl) ?_ (fun hHeld => ?_)
                    · (try dsimp only); (first | (exact keep_acw n1 n2 n3 n4 n5 ⟨z1, z2, z3, z4, z5, z6, z7⟩) | go_keep | fail)
                    refine wpAnyH_take (i := 0) (v := ?_) rfl (by decide +kernel) (by decide +kernel) (by decide +kernel) (fun _ _ _ h => h) (Or.inl ⟨by rfl, ?_⟩) (by assumption) ?_
                    rotate_left
                    · (intro w hSw; (try dsimp only at hSw); (try dsimp only [List.getElem_toArray, List.getElem_cons_succ, List.getElem_cons_zero]); go_simp)
                      try with_reducible rfl
                    try simp only [List.getElem_toArray, List.getElem_cons_succ, List.getElem_cons_zero, Act.put, List.setIfInBounds_toArray, List.set_cons_zero, List.set_cons_succ]
                    refine wpAnyH_take (i := 1) (v := ?_) rfl (by decide +kernel) (by decide +kernel) (by decide +kernel) (fun _ _ _ h => h) (Or.inl ⟨by rfl, ?_⟩) (by assumption) ?_
                    rotate_left
                    · (intro w hSw; (try dsimp only at hSw); (try dsimp only [List.getElem_toArray, List.getElem_cons_succ, List.getElem_cons_zero]); go_simp)
                      try with_reducible rfl
                    try simp only [List.getElem_toArray, List.getElem_cons_succ, List.getElem_cons_zero, Act.put, List.setIfInBounds_toArray, List.set_cons_zero, List.set_cons_succ]
                    refine wpAnyH_take (i := 2) (v := ?_) rfl (by decide +kernel) (by decide +kernel) (by decide +kernel) (fun _ _ _ h => h) (Or.inl ⟨by rfl, ?_⟩) (by assumption) ?_
                    rotate_left
                    · (intro w hSw; (try dsimp only at hSw); (try dsimp only [List.getElem_toArray, List.getElem_cons_succ, List.getElem_cons_zero]); go_simp)
                      try with_reducible rfl
                    try simp only [List.getElem_toArray, List.getElem_cons_succ, List.getElem_cons_zero, Act.put, List.setIfInBounds_toArray, List.set_cons_zero, List.set_cons_succ]
                    refine wpAnyH_take (i := 4) (v := ?_) rfl (by decide +kernel) (by decide +kernel) (by decide +kernel) (fun _ _ _ h => h) (Or.inl ⟨by rfl, ?_⟩) (by assumption) ?_
                    rotate_left
                    · (intro w hSw; (try dsimp only at hSw); (try dsimp only [List.getElem_toArray, List.getElem_cons_succ, List.getElem_cons_zero]); go_simp)
                      try with_reducible rfl
                    try simp only [List.getElem_toArray, List.getElem_cons_succ, List.getElem_cons_zero, Act.put, List.setIfInBounds_toArray, List.set_cons_zero, List.set_cons_succ]
                    refine wpAnyH_take (i := 5) (v := ?_) rfl (by decide +kernel) (by decide +kernel) (by decide +kernel) (fun _ _ _ h => h) (Or.inl ⟨by rfl, ?_⟩) (by assumption) ?_
                    rotate_left
                    · (intro w hSw; (try dsimp only at hSw); (try dsimp only [List.getElem_toArray, List.getElem_cons_succ, List.getElem_cons_zero]); go_simp)
                      try with_reducible rfl
                    try simp only [List.getElem_toArray, List.getElem_cons_succ, List.getElem_cons_zero, Act.put, List.setIfInBounds_toArray, List.set_cons_zero, List.set_cons_succ]
                    refine wpAnyH_take (i := 6) (v := ?_) rfl (by decide +kernel) (by decide +kernel) (by decide +kernel) (fun _ _ _ h => h) (Or.inl ⟨by rfl, ?_⟩) (by assumption) ?_
                    rotate_left
                    · (intro w hSw; (try dsimp only at hSw); (try dsimp only [List.getElem_toArray, List.getElem_cons_succ, List.getElem_cons_zero]); go_simp)
                      try with_reducible rfl
                    try simp only [List.getElem_toArray, List.getElem_cons_succ, List.getElem_cons_zero, Act.put, List.setIfInBounds_toArray, List.set_cons_zero, List.set_cons_succ]
                    refine wpAnyH_take (i := 7) (v := ?_) rfl (by decide +kernel) (by decide +kernel) (by decide +kernel) (fun _ _ _ h => h) (Or.inl ⟨by rfl, ?_⟩) (by assumption) ?_
                    rotate_left
                    · (intro w hSw; (try dsimp only at hSw); (try dsimp only [List.getElem_toArray, List.getElem_cons_succ, List.getElem_cons_zero]); go_simp)
                      try with_reducible rfl
                    try simp only [List.getElem_toArray, List.getElem_cons_succ, List.getElem_cons_zero, Act.put, List.setIfInBounds_toArray, List.set_cons_zero, List.set_cons_succ]
                    refine wpAnyH_take (i := 8) (v := ?_) rfl (by decide +kernel) (by decide +kernel) (by decide +kernel) (fun _ _ _ h => h) (Or.inl ⟨by rfl, ?_⟩) (by assumption) ?_
                    rotate_left
                    · (intro w hSw; (try dsimp only at hSw); (try dsimp only [List.getElem_toArray, List.getElem_cons_succ, List.getElem_cons_zero]); go_simp)
                      try with_reducible rfl
                    try simp only [List.getElem_toArray, List.getElem_cons_succ, List.getElem_cons_zero, Act.put, List.setIfInBounds_toArray, List.set_cons_zero, List.set_cons_succ]
                    refine wpAnyH_take (i := 9) (v := ?_) rfl (by decide +kernel) (by decide +kernel) (by decide +kernel) (fun _ _ _ h => h) (Or.inl ⟨by rfl, ?_⟩) (by assumption) ?_
                    rotate_left
                    · (intro w hSw; (try dsimp only at hSw); (try dsimp only [List.getElem_toArray, List.getElem_cons_succ, List.getElem_cons_zero]); go_simp)
                      try with_reducible rfl
                    try simp only [List.getElem_toArray, List.getElem_cons_succ, List.getElem_cons_zero, Act.put, List.setIfInBounds_toArray, List.set_cons_zero, List.set_cons_succ]
                    refine wpAnyH_take (i := 10) (v := ?_) rfl (by decide +kernel) (by decide +kernel) (by decide +kernel) (fun _ _ _ h => h) (Or.inl ⟨by rfl, ?_⟩) (by assumption) ?_
                    rotate_left
                    · (intro w hSw; (try dsimp only at hSw); (try dsimp only [List.getElem_toArray, List.getElem_cons_succ, List.getElem_cons_zero]); go_simp)
                      try with_reducible rfl
                    try simp only [List.getElem_toArray, List.getElem_cons_succ, List.getElem_cons_zero, Act.put, List.setIfInBounds_toArray, List.set_cons_zero, List.set_cons_succ]
                    refine wpAnyH_take (i := 11) (v := ?_) rfl (by decide +kernel) (by decide +kernel) (by decide +kernel) (fun _ _ _ h => h) (Or.inl ⟨by rfl, ?_⟩) (by assumption) ?_
                    rotate_left
                    · (intro w hSw; (try dsimp only at hSw); (try dsimp only [List.getElem_toArray, List.getElem_cons_succ, List.getElem_cons_zero]); go_simp)
                      try with_reducible rfl
                    try simp only [List.getElem_toArray, List.getElem_cons_succ, List.getElem_cons_zero, Act.put, List.setIfInBounds_toArray, List.set_cons_zero, List.set_cons_succ]
                    refine wpAnyH_take (i := 12) (v := ?_) rfl (by decide +kernel) (by decide +kernel) (by decide +kernel) (fun _ _ _ h => h) (Or.inl ⟨by rfl, ?_⟩) (by assumption) ?_
                    rotate_left
                    · (intro w hSw; (try dsimp only at hSw); (try dsimp only [List.getElem_toArray, List.getElem_cons_succ, List.getElem_cons_zero]); go_simp)
                      try with_reducible rfl
                    try simp only [List.getElem_toArray, List.getElem_cons_succ, List.getElem_cons_zero, Act.put, List.setIfInBounds_toArray, List.set_cons_zero, List.set_cons_succ]
                    refine wpAnyH_take (i := 13) (v := ?_) rfl (by decide +kernel) (by decide +kernel) (by decide +kernel) (fun _ _ _ h => h) (Or.inl ⟨by rfl, ?_⟩) (by assumption) ?_
                    rotate_left
                    · (intro w hSw; (try dsimp only at hSw); (try dsimp only [List.getElem_toArray, List.getElem_cons_succ, List.getElem_cons_zero]); go_simp)
                      try with_reducible rfl
                    try simp only [List.getElem_toArray, List.getElem_cons_succ, List.getElem_cons_zero, Act.put, List.setIfInBounds_toArray, List.set_cons_zero, List.set_cons_succ]
                    refine wpAnyH_take (i := 14) (v := ?_) rfl (by decide +kernel) (by decide +kernel) (by decide +kernel) (fun _ _ _ h => h) (Or.inl ⟨by rfl, ?_⟩) (by assumption) ?_
                    rotate_left
                    · (intro w hSw; (try dsimp only at hSw); (try dsimp only [List.getElem_toArray, List.getElem_cons_succ, List.getElem_cons_zero]); go_simp)
                      try with_reducible rfl
                    try simp only [List.getElem_toArray, List.getElem_cons_succ, List.getElem_cons_zero, Act.put, List.setIfInBounds_toArray, List.set_cons_zero, List.set_cons_succ]
                    refine wpAnyH_take (i := 15) (v := ?_) rfl (by decide +kernel) (by decide +kernel) (by decide +kernel) (fun _ _ _ h => h) (Or.inl ⟨by rfl, ?_⟩) (by assumption) ?_
                    rotate_left
                    · (intro w hSw; (try dsimp only at hSw); (try dsimp only [List.getElem_toArray, List.getElem_cons_succ, List.getElem_cons_zero]); go_simp)
                      try with_reducible rfl
                    try simp only [List.getElem_toArray, List.getElem_cons_succ, List.getElem_cons_zero, Act.put, List.setIfInBounds_toArray, List.set_cons_zero, List.set_cons_succ]
                    refine wpAnyH_take (i := 16) (v := ?_) rfl (by decide +kernel) (by decide +kernel) (by decide +kernel) (fun _ _ _ h => h) (Or.inl ⟨by rfl, ?_⟩) (by assumption) ?_
                    rotate_left
                    · (intro w hSw; (try dsimp only at hSw); (try dsimp only [List.getElem_toArray, List.getElem_cons_succ, List.getElem_cons_zero]); go_simp)
                      try with_reducible rfl
                    try simp only [List.getElem_toArray, List.getElem_cons_succ, List.getElem_cons_zero, Act.put, List.setIfInBounds_toArray, List.set_cons_zero, List.set_cons_succ]
                    refine wpAnyH_take (i := 17) (v := ?_) rfl (by decide +kernel) (by decide +kernel) (by decide +kernel) (fun _ _ _ h => h) (Or.inl ⟨by rfl, ?_⟩) (by assumption) ?_
                    rotate_left
                    · (intro w hSw; (try dsimp only at hSw); (try dsimp only [List.getElem_toArray, List.getElem_cons_succ, List.getElem_cons_zero]); go_simp)
                      try with_reducible rfl
                    try simp only [List.getElem_toArray, List.getElem_cons_succ, List.getElem_cons_zero, Act.put, List.setIfInBounds_toArray, List.set_cons_zero, List.set_cons_succ]
                    refine wpAnyH_take (i := 18) (v := ?_) rfl (by decide +kernel) (by decide +kernel) (by decide +kernel) (fun _ _ _ h => h) (Or.inl ⟨by rfl, ?_⟩) (by assumption) ?_
                    rotate_left
                    · (intro w hSw; (try dsimp only at hSw); (try dsimp only [List.getElem_toArray, List.getElem_cons_succ, List.getElem_cons_zero]); go_simp)
                      try with_reducible rfl
                    try simp only [List.getElem_toArray, List.getElem_cons_succ, List.getElem_cons_zero, Act.put, List.setIfInBounds_toArray, List.set_cons_zero, List.set_cons_succ]
                    refine wpAnyH_take (i := 19) (v := ?_) rfl (by decide +kernel) (by decide +kernel) (by decide +kernel) (fun _ _ _ h => h) (Or.inl ⟨by rfl, ?_⟩) (by assumption) ?_
                    rotate_left
                    · (intro w hSw; (try dsimp only at hSw); (try dsimp only [List.getElem_toArray, List.getElem_cons_succ, List.getElem_cons_zero]); go_simp)
                      try with_reducible rfl
                    try simp only [List.getElem_toArray, List.getElem_cons_succ, List.getElem_cons_zero, Act.put, List.setIfInBounds_toArray, List.set_cons_zero, List.set_cons_succ]
                    refine wpAnyH_take (i := 20) (v := ?_) rfl (by decide +kernel) (by decide +kernel) (by decide +kernel) (fun _ _ _ h => h) (Or.inl ⟨by rfl, ?_⟩) (by assumption) ?_
                    rotate_left
                    · (intro w hSw; (try dsimp only at hSw); (try dsimp only [List.getElem_toArray, List.getElem_cons_succ, List.getElem_cons_zero]); go_simp)
                      try with_reducible rfl
                    try simp only [List.getElem_toArray, List.getElem_cons_succ, List.getElem_cons_zero, Act.put, List.setIfInBounds_toArray, List.set_cons_zero, List.set_cons_succ]
                    refine wpAnyH_take (i := 21) (v := ?_) rfl (by decide +kernel) (by decide +kernel) (by decide +kernel) (fun _ _ _ h => h) (Or.inl ⟨by rfl, ?_⟩) (by assumption) ?_
                    rotate_left
                    · (intro w hSw; (try dsimp only at hSw); (try dsimp only [List.getElem_toArray, List.getElem_cons_succ, List.getElem_cons_zero]); go_simp)
                      try with_reducible rfl
                    try simp only [List.getElem_toArray, List.getElem_cons_succ, List.getElem_cons_zero, Act.put, List.setIfInBounds_toArray, List.set_cons_zero, List.set_cons_succ]
                    refine wpAnyH_take (i := 22) (v := ?_) rfl (by decide +kernel) (by decide +kernel) (by decide +kernel) (fun _ _ _ h => h) (Or.inl ⟨by rfl, ?_⟩) (by assumption) ?_
                    rotate_left
                    · (intro w hSw; (try dsimp only at hSw); (try dsimp only [List.getElem_toArray, List.getElem_cons_succ, List.getElem_cons_zero]); go_simp)
                      try with_reducible rfl
                    try simp only [List.getElem_toArray, List.getElem_cons_succ, List.getElem_cons_zero, Act.put, List.setIfInBounds_toArray, List.set_cons_zero, List.set_cons_succ]
                    refine wpAnyH_take (i := 23) (v := ?_) rfl (by decide +kernel) (by decide +kernel) (by decide +kernel) (fun _ _ _ h => h) (Or.inl ⟨by rfl, ?_⟩) (by assumption) ?_
                    rotate_left
                    · (intro w hSw; (try dsimp only at hSw); (try dsimp only [List.getElem_toArray, List.getElem_cons_succ, List.getElem_cons_zero]); go_simp)
                      try with_reducible rfl
                    try simp only [List.getElem_toArray, List.getElem_cons_succ, List.getElem_cons_zero, Act.put, List.setIfInBounds_toArray, List.set_cons_zero, List.set_cons_succ]
                    refine wpAnyH_take (i := 24) (v := ?_) rfl (by decide +kernel) (by decide +kernel) (by decide +kernel) (fun _ _ _ h => h) (Or.inl ⟨by rfl, ?_⟩) (by assumption) ?_
                    rotate_left
                    · (intro w hSw; (try dsimp only at hSw); (try dsimp only [List.getElem_toArray, List.getElem_cons_succ, List.getElem_cons_zero]); go_simp)
                      try with_reducible rfl
                    try simp only [List.getElem_toArray, List.getElem_cons_succ, List.getElem_cons_zero, Act.put, List.setIfInBounds_toArray, List.set_cons_zero, List.set_cons_succ]
                    refine wpAnyH_take (i := 25) (v := ?_) rfl (by decide +kernel) (by decide +kernel) (by decide +kernel) (fun _ _ _ h => h) (Or.inl ⟨by rfl, ?_⟩) (by assumption) ?_
                    rotate_left
                    · (intro w hSw; (try dsimp only at hSw); (try dsimp only [List.getElem_toArray, List.getElem_cons_succ, List.getElem_cons_zero]); go_simp)
                      try with_reducible rfl
                    try simp only [List.getElem_toArray, List.getElem_cons_succ, List.getElem_cons_zero, Act.put, List.setIfInBounds_toArray, List.set_cons_zero, List.set_cons_succ]
                    refine wpAnyH_take (i := 26) (v := ?_) rfl (by decide +kernel) (by decide +kernel) (by decide +kernel) (fun _ _ _ h => h) (Or.inl ⟨by rfl, ?_⟩) (by assumption) ?_
                    rotate_left
                    · (intro w hSw; (try dsimp only at hSw); (try dsimp only [List.getElem_toArray, List.getElem_cons_succ, List.getElem_cons_zero]); go_simp)
                      try with_reducible rfl
                    try simp only [List.getElem_toArray, List.getElem_cons_succ, List.getElem_cons_zero, Act.put, List.setIfInBounds_toArray, List.set_cons_zero, List.set_cons_succ]
                    refine wpAnyH_take (i := 27) (v := ?_) rfl (by decide +kernel) (by decide +kernel) (by decide +kernel) (fun _ _ _ h => h) (Or.inl ⟨by rfl, ?_⟩) (by assumption) ?_
                    rotate_left
                    · (intro w hSw; (try dsimp only at hSw); (try dsimp only [List.getElem_toArray, List.getElem_cons_succ, List.getElem_cons_zero]); go_simp)
                      try with_reducible rfl
                    try simp only [List.getElem_toArray, List.getElem_cons_succ, List.getElem_cons_zero, Act.put, List.setIfInBounds_toArray, List.set_cons_zero, List.set_cons_succ]
                    refine wpAnyH_take (i := 28) (v := ?_) rfl (by decide +kernel) (by decide +kernel) (by decide +kernel) (fun _ _ _ h => h) (Or.inl ⟨by rfl, ?_⟩) (by assumption) ?_
                    rotate_left
                    · (intro w hSw; (try dsimp only at hSw); (try dsimp only [List.getElem_toArray, List.getElem_cons_succ, List.getElem_cons_zero]); go_simp)
                      try with_reducible rfl
                    try simp only [List.getElem_toArray, List.getElem_cons_succ, List.getElem_cons_zero, Act.put, List.setIfInBounds_toArray, List.set_cons_zero, List.set_cons_succ]
                    refine wpAnyH_ready (rs := [3, 29]) (by kernel_rfl) (by simp) ?_
                    refine AllReadyH.cons rfl (fun K hK => ?_) (AllReadyH.cons rfl (fun K hK => ?_) AllReadyH.nil)
                    rotate_left
                    try dsimp only [List.getElem_toArray, List.getElem_cons_succ, List.getElem_cons_zero]
                    go_simp
                    clear hHeld
                    refine hK.out _ _ ?_ (fun hHeld => ?_)
                    · (try dsimp only); (first | done | (first | (exact keep_acw n1 n2 n3 n4 n5 ⟨z1, z2, z3, z4, z5, z6, z7⟩) | go_keep | fail))
                    clear hK K
                    try simp only [List.getElem_toArray, List.getElem_cons_succ, List.getElem_cons_zero, Act.put, List.setIfInBounds_toArray, List.set_cons_zero, List.set_cons_succ]
                    refine wpAnyH_ready (rs := [3]) (by kernel_rfl) (by simp) ?_
                    refine AllReadyH.cons rfl (fun K hK => ?_) AllReadyH.nil
                    try dsimp only [List.getElem_toArray, List.getElem_cons_succ, List.getElem_cons_zero]
                    go_simp
                    clear hHeld
                    refine hK.out _ _ ?_ (fun hHeld => ?_)
                    · (try dsimp only); (first | done | (first | (exact keep_acw n1 n2 n3 n4 n5 ⟨z1, z2, z3, z4, z5, z6, z7⟩) | go_keep | fail))
                    clear hK K
                    try simp only [List.getElem_toArray, List.getElem_cons_succ, List.getElem_cons_zero, Act.put, List.setIfInBounds_toArray, List.set_cons_zero, List.set_cons_succ]
                    refine wpAnyH_ready (rs := [30]) (by kernel_rfl) (by simp) ?_
                    refine AllReadyH.cons rfl (fun K hK => ?_) AllReadyH.nil
                    ((refine step_append_lies _ (by rfl) _ _ _ (by rfl) z.B 130 i0 _ 4 32 Tryz.underlying95 hi0 hz0 hz1 hz2 rfl (by omega) (.slice Uk sk.accs.length uck) sk.accs.length _ (by rfl) HOR.out ⟨wr.heap.size, 0, none⟩ 1 1 [.int .i64 k, .int .i64 cell, .bool q9, .int .i64 sk.phase] (by rfl) (by rfl) (World.news_of_block (cs := #[.int .i64 k, .int .i64 cell, .bool q9, .int .i64 sk.phase]) (t := 130) (fr := (0, 0)) hnew) (by simp [Value.oneCell']) (by omega) (by unfold maxLen; omega) (by omega) (by simp; omega) (wr.heap.size + 1) (by simp) ?_; intro gg cap w3 ho3 hgrow hat hlt3; obtain ⟨z1, z2, z3, z4, z5, z6, z7, z8, z9⟩ := HCL.out w3 (grown_drew2' hgrow)))
                    clear hHeld
                    refine hK.out _ _ ?_ (fun hHeld => ?_)
                    · (try dsimp only); (first | done | (first | (exact keep_acw n1 n2 n3 n4 n5 ⟨z1, z2, z3, z4, z5, z6, z7⟩) | go_keep | fail))
                    clear hK K
                    try simp only [List.getElem_toArray, List.getElem_cons_succ, List.getElem_cons_zero, Act.put, List.setIfInBounds_toArray, List.set_cons_zero, List.set_cons_succ]
                    refine wpAnyH_take (i := 31) (v := ?_) rfl (by decide +kernel) (by decide +kernel) (by decide +kernel) (fun _ _ _ h => h) (Or.inl ⟨by rfl, ?_⟩) (by assumption) ?_
                    rotate_left
                    · (intro w hSw; (try dsimp only at hSw); (try dsimp only [List.getElem_toArray, List.getElem_cons_succ, List.getElem_cons_zero]); go_simp)
                      try with_reducible rfl
                    try simp only [List.getElem_toArray, List.getElem_cons_succ, List.getElem_cons_zero, Act.put, List.setIfInBounds_toArray, List.set_cons_zero, List.set_cons_succ]
                    refine wpAnyH_ready (rs := [32]) (by kernel_rfl) (by simp) ?_
                    refine AllReadyH.cons rfl (fun K hK => ?_) AllReadyH.nil
                    try dsimp only [List.getElem_toArray, List.getElem_cons_succ, List.getElem_cons_zero]
                    go_simp
                    clear hHeld
                    refine hK.out _ _ ?_ (fun hHeld => ?_)
                    · (try dsimp only); (first | done | (first | (exact keep_acw n1 n2 n3 n4 n5 ⟨z1, z2, z3, z4, z5, z6, z7⟩) | go_keep | fail))
                    clear hK K
                    try simp only [List.getElem_toArray, List.getElem_cons_succ, List.getElem_cons_zero, Act.put, List.setIfInBounds_toArray, List.set_cons_zero, List.set_cons_succ]
                    refine wpAnyH_done (by kernel_rfl) ?_ _
                    rotate_left
                    try dsimp only [List.getElem_toArray, List.getElem_cons_succ, List.getElem_cons_zero]
                    go_simp
                    clear hHeld
                    refine hK.out _ _ ?_ (fun hHeld => ?_)
                    · (try dsimp only); (first | done | (first | (exact keep_acw n1 n2 n3 n4 n5 ⟨z1, z2, z3, z4, z5, z6, z7⟩) | go_keep | fail))
                    clear hK K
                    try simp only [List.getElem_toArray, List.getElem_cons_succ, List.getElem_cons_zero, Act.put, List.setIfInBounds_toArray, List.set_cons_zero, List.set_cons_succ]
                    refine wpAnyH_ready (rs := [29]) (by kernel_rfl) (by simp) ?_
                    refine AllReadyH.cons rfl (fun K hK => ?_) AllReadyH.nil
                    try dsimp only [List.getElem_toArray, List.getElem_cons_succ, List.getElem_cons_zero]
                    go_simp
                    clear hHeld
                    refine hK.out _ _ ?_ (fun hHeld => ?_)
                    · (try dsimp only); (first | done | (first | (exact keep_acw n1 n2 n3 n4 n5 ⟨z1, z2, z3, z4, z5, z6, z7⟩) | go_keep | fail))
                    clear hK K
                    try simp only [List.getElem_toArray, List.getElem_cons_succ, List.getElem_cons_zero, Act.put, List.setIfInBounds_toArray, List.set_cons_zero, List.set_cons_succ]
                    refine wpAnyH_ready (rs := [30]) (by kernel_rfl) (by simp) ?_
                    refine AllReadyH.cons rfl (fun K hK => ?_) AllReadyH.nil
                    ((refine step_append_lies _ (by rfl) _ _ _ (by rfl) z.B 130 i0 _ 4 32 Tryz.underlying95 hi0 hz0 hz1 hz2 rfl (by omega) (.slice Uk sk.accs.length uck) sk.accs.length _ (by rfl) HOR.out ⟨wr.heap.size, 0, none⟩ 1 1 [.int .i64 k, .int .i64 cell, .bool q9, .int .i64 sk.phase] (by rfl) (by rfl) (World.news_of_block (cs := #[.int .i64 k, .int .i64 cell, .bool q9, .int .i64 sk.phase]) (t := 130) (fr := (0, 0)) hnew) (by simp [Value.oneCell']) (by omega) (by unfold maxLen; omega) (by omega) (by simp; omega) (wr.heap.size + 1) (by simp) ?_; intro gg cap w3 ho3 hgrow hat hlt3; obtain ⟨z1, z2, z3, z4, z5, z6, z7, z8, z9⟩ := HCL.out w3 (grown_drew2' hgrow)))
                    clear hHeld
                    refine hK.out _ _ ?_ (fun hHeld => ?_)
                    · (try dsimp only); (first | done | (first | (exact keep_acw n1 n2 n3 n4 n5 ⟨z1, z2, z3, z4, z5, z6, z7⟩) | go_keep | fail))
                    clear hK K
                    try simp only [List.getElem_toArray, List.getElem_cons_succ, List.getElem_cons_zero, Act.put, List.setIfInBounds_toArray, List.set_cons_zero, List.set_cons_succ]
                    refine wpAnyH_take (i := 31) (v := ?_) rfl (by decide +kernel) (by decide +kernel) (by decide +kernel) (fun _ _ _ h => h) (Or.inl ⟨by rfl, ?_⟩) (by assumption) ?_
                    rotate_left
                    · (intro w hSw; (try dsimp only at hSw); (try dsimp only [List.getElem_toArray, List.getElem_cons_succ, List.getElem_cons_zero]); go_simp)
                      try with_reducible rfl
                    try simp only [List.getElem_toArray, List.getElem_cons_succ, List.getElem_cons_zero, Act.put, List.setIfInBounds_toArray, List.set_cons_zero, List.set_cons_succ]
                    refine wpAnyH_ready (rs := [32]) (by kernel_rfl) (by simp) ?_
                    refine AllReadyH.cons rfl (fun K hK => ?_) AllReadyH.nil
                    try dsimp only [List.getElem_toArray, List.getElem_cons_succ, List.getElem_cons_zero]
                    go_simp
                    clear hHeld
                    refine hK.out _ _ ?_ (fun hHeld => ?_)
                    · (try dsimp only); (first | done | (first | (exact keep_acw n1 n2 n3 n4 n5 ⟨z1, z2, z3, z4, z5, z6, z7⟩) | go_keep | fail))
                    clear hK K
                    try simp only [List.getElem_toArray, List.getElem_cons_succ, List.getElem_cons_zero, Act.put, List.setIfInBounds_toArray, List.set_cons_zero, List.set_cons_succ]
                    refine wpAnyH_done (by kernel_rfl) ?_ _
                    all_goals
                      clear hHeld
                      obtain ⟨hI4, hst4⟩ := HF.out _ _ _ (grown_drew2' hgrow) ho3
                      have hst5 := hstn.trans hst4
                      have hc4 := Lib.hid (hst4.code _ _ HBn.out)
                      clear hst4
                      go_wp2_with fail
                      go_meet
                      exact ⟨_, _, by rw [HNA.out]; exact hI4, hc4, hst5⟩
                case rest =>
                clear hSn c1 c2 c3 c4 c5 hrow d0 d1 d2 d3
                have hbw := hstn.size
                clear hstn HBn
                obtain ⟨U', uc', hI4, HB4, hst5⟩ := hcut
                have hs4 := hst5.size
                obtain ⟨c0, c1, c2, c3, c4, c5⟩ := hI4.cells
                replace c3 : wc.cell? ⟨z.g, 3, none⟩ = some (.slice (some ⟨z.mb, 0, none⟩) sk.mem.length z.mc) := by rw [noteA_mem] at c3; exact c3
                have hrow := hI4.run.rowAt hkn
                have d0 := cell_of_heap HB4.out 0
                have d1 := cell_of_heap HB4.out 1
                have d2 := cell_of_heap HB4.out 2
                have d3 := cell_of_heap HB4.out 3
                have HI4 := Lib.hid hI4
                clear hI4 c0 c4 c5
                go_wp2_with fail
                go_still_tail 13, (by kernel_rfl)
                go_wp2_with fail
                have hXd : Ext wc wc.drew := Ext.drew wc
                have hBn4 : z.B ≤ wc.heap.size := by omega
                have hId := HI4.out.ext hXd hBn4
                refine (l6Simple_c x k (sk.regs.getD k []) sk.mem z.B (z.rk k) 4 z.mb z.mc sk.mem.length _ hvx h10x (by omega) (by have h := hId.inn hkn; rw [noteA_regs] at h; exact h) (by have h := hId.mem; rw [noteA_mem] at h; exact h) (hId.run.mne k hkn) (hokn.get hkn).2 hokn.memw ⟨hokn.mem1, hokn.mem2⟩).mono ?_
                rintro e w6 ⟨rfl, hs⟩
                obtain ⟨hS6, hst6⟩ := hId.simpX hkn hokn hBn4 hs
                have hst7 := (hst5.trans (Stp.of_ext hXd hBn4)).trans hst6
                have HB6 := Lib.hid (hst6.code _ _ (hXd.heap_ HB4.out))
                have hok6 := hokn.exec1 hvx hkn
                clear hs hXd hId hrow d0 d1 d2 d3 c1 c2 c3 HI4
                go_wp2
                go_roundw
                case rel => exact ⟨k + 1, _, _, by omega, by go_num, by rw [HE1.out, HB.out]; exact hS6, by rw [HE1.out, HB.out]; exact hok6, HB6, hst7⟩
                case measure => simp [intOf]; omega
            · obtain rfl : k = z.n := by omega
              clear c0 c2 c3 c4 c5
              go_wp2
              go_roundw
              case rel =>
                have hr := HR.out
                refine ⟨r', q + 1, Uk, uck, sE, by go_num, Lib.hid ⟨hr.2.1, hr.2.2.1, hr.2.2.2, hr.1⟩, hqt', by rw [HEX.out]; exact hSn, by rw [HEX.out]; exact hokn, hbdE, hwtE, hrl', hstn⟩
              case measure => simp [intOf]; omega
        | iff a t r' =>
          have hq := HQ.out
          obtain ⟨hq1, hq2, hq3, hq4⟩ := hq
          obtain ⟨ha, hd1, ht, hr'⟩ := hq3
          have hq1' : z.l.drop q = cIf a :: (t.flat ++ cEnd :: (r'.flat ++ rest)) := by rw [hq1]; simp [Blk.flat]
          obtain ⟨hend, hdt, hdr⟩ := end_iff ht hq1'
          have hxx := (drop_cons hq1').1
          obtain rfl : x = cIf a := by have h := HX.out; rw [hxx] at h; injection h with h; exact h.symm
          have hop : opB (cIf a) = true := rfl
          have hm0 : ¬ m = 0 := by intro e; subst e; simp at h0
          have hrun : Blk.run (.iff a t r') q m s1 = r'.run (q + t.flat.length + 2) m (t.run (q + 1) (onesOf m a s1) (beat q m s1)) := by
            simp only [Blk.run]; rw [if_neg hm0]
          have hlen : q + t.flat.length + 2 + r'.flat.length = te := by simp [Blk.flat] at hq2; omega
          have HR := Lib.hid (And.intro (hq4.trans hrun) (And.intro hdr (And.intro hlen hr')))
          have hwt1 : s1.beats.length + 1 + t.wt + r'.wt ≤ 1000000000 := by simp only [Blk.wt] at hwt; omega
          have hrl' : r'.flat.length ≤ b.flat.length := by simp [Blk.flat] at hrl; omega
          have htl : t.flat.length < N := by simp [Blk.flat] at hrl; omega
          have hqt' : q + t.flat.length + 2 ≤ te := by omega
          have hml : mdiff m (onesOf m a s1) < 2 ^ z.n := mdiff_lt HM.out
          have hm256 : m < 4611686018427387904 := by omega
          have ho256 : onesOf m a s1 < 4611686018427387904 := by
            have h1 := onesOf_lt HM.out n8 a s1
            have h2 : 2 ^ z.n ≤ 2 ^ 8 := Nat.pow_le_pow_right (by decide) n8
            omega
          have han := bits_andNot64 m (onesOf m a s1) hm256 ho256
          have HAN := Lib.hid han
          have HML := Lib.hid hml
          clear hm256 ho256 hml
          have hol := onesOf_lt HM.out n8 a s1
          have HEND := Lib.hid hend
          have HDT := Lib.hid hdt
          have HT := Lib.hid ht
          have HOL := Lib.hid hol
          have hlen2 : q + t.flat.length + 1 < z.l.length := by omega
          clear hq1 hq1' hq2 hq4 hdr hrun hr' hwt hrl HQ hend hdt ht hol hm0 hxx
          rw [hop]
          clear hop
          obtain ⟨c0, c1, c2, c3, c4, c5⟩ := hS5.cells
          have d0 : w5.cell? ⟨wr.heap.size, 0, none⟩ = some (.int .i64 11) := cell_of_heap HB5.out 0
          have d1 : w5.cell? ⟨wr.heap.size, 1, none⟩ = some (.int .i64 a) := cell_of_heap HB5.out 1
          have hbw5 : wr.heap.size < w5.heap.size := lt_of_block HB5.out
          have hR5 := hS5.run.lst.more (show z.B ≤ w5.heap.size by omega)
          rw [HA.out] at c0 hR5
          go_wp2_with fail
          refine (l4End_c _ z.ca z.l q _ hR5 hl hql2).mono ?_
          rintro e w6 ⟨rfl, hb6⟩
          rw [HEND.out]
          have hX6 := Ext.of_below hb6
          have hS6 := hS5.ext hX6 (by omega)
          have hst6 := hst5.trans (Stp.of_ext hX6 (by omega))
          replace d0 := hX6.cell d0
          replace d1 := hX6.cell d1
          clear c0 c1 c2 c3 c4 c5 hR5 hS5 hst5 hX6 hb6
          go_wp2_with fail
          refine (ones_c hS6.run hok.nbt m HM.out a ha).mono ?_
          rintro e w7 ⟨rfl, rfl⟩
          have hon : onesOf m a (nbt s1) = onesOf m a s1 := rfl
          rw [hon]
          have hbd5 := hbd.beat q m
          replace hS6 : WR w6 z ob pb U uc (beat q m s1) := ⟨hS6.run, hS6.oc, hS6.pc, hS6.acc, hS6.oB, hS6.pB, hS6.pk, hS6.pm⟩
          go_wp2_with fail
          refine (HIH.out t.flat.length htl t (d - 1) (Nat.le_refl _) HT.out w6 z ob pb U uc (beat q m s1) (q + 1) (onesOf m a s1) (q + t.flat.length + 1) _ _ _ (cEnd :: (r'.flat ++ rest)) hS6 hok5 hbd5 HOL.out HDT.out (by omega) hl (by omega) (by have := hst6.size; omega) (by simp [beat]; omega) HV.out (by omega) (by first | rfl | omega) rfl).mono ?_
          rintro e w8 ⟨rfl, U3, uc3, hS8, hst8⟩
          replace hst6 := hst6.trans hst8
          have hok8 := run_ok t (d - 1) (q + 1) (onesOf m a s1) (beat q m s1) HT.out HOL.out hok5
          have hbd8 := run_bd t (q + 1) (onesOf m a s1) (beat q m s1) hbd5
          have hbt := run_beats t (q + 1) (onesOf m a s1) (beat q m s1)
          have hbl1 : (beat q m s1).beats.length = s1.beats.length + 1 := by simp [beat]
          have hwt8 : (t.run (q + 1) (onesOf m a s1) (beat q m s1)).beats.length + r'.wt ≤ 1000000000 := by omega
          clear hbt hbl1 hS6 d0 d1 hst8
          go_wp2_with fail
          refine (watch_none _ _ _ _ _ _ _ (by omega)).mono ?_
          rintro e w9 ⟨rfl, rfl⟩
          go_wp2
          go_roundw
          case rel =>
            have hr := HR.out
            exact ⟨r', q + t.flat.length + 2, U3, uc3, _, by (congr 1; first | done | omega), Lib.hid ⟨hr.2.1, hr.2.2.1, hr.2.2.2, hr.1⟩, hqt', hS8, hok8, hbd8, hwt8, hrl', hst6⟩
          case measure => simp [intOf]; omega
        | ife a t e r' =>
          have hq := HQ.out
          obtain ⟨hq1, hq2, hq3, hq4⟩ := hq
          obtain ⟨ha, hd1, ht, he, hr'⟩ := hq3
          have hq1' : z.l.drop q = cIf a :: (t.flat ++ cElse :: (e.flat ++ cEnd :: (r'.flat ++ rest))) := by rw [hq1]; simp [Blk.flat]
          obtain ⟨hend, hdt, hde, hdr⟩ := end_ife ht he hq1'
          have hxx := (drop_cons hq1').1
          obtain rfl : x = cIf a := by have h := HX.out; rw [hxx] at h; injection h with h; exact h.symm
          have hop : opB (cIf a) = true := rfl
          have hm0 : ¬ m = 0 := by intro e; subst e; simp at h0
          have hrun : Blk.run (.ife a t e r') q m s1 = r'.run (q + t.flat.length + e.flat.length + 3) m (e.run (q + t.flat.length + 2) (mdiff m (onesOf m a s1)) (t.run (q + 1) (onesOf m a s1) (beat q m s1))) := by
            simp only [Blk.run]; rw [if_neg hm0]
          have hlen : q + t.flat.length + e.flat.length + 3 + r'.flat.length = te := by simp [Blk.flat] at hq2; omega
          have HR := Lib.hid (And.intro (hq4.trans hrun) (And.intro hdr (And.intro hlen hr')))
          have hwt1 : s1.beats.length + 1 + t.wt + e.wt + r'.wt ≤ 1000000000 := by simp only [Blk.wt] at hwt; omega
          have hrl' : r'.flat.length ≤ b.flat.length := by simp [Blk.flat] at hrl; omega
          have htl : t.flat.length < N := by simp [Blk.flat] at hrl; omega
          have hel : e.flat.length < N := by simp [Blk.flat] at hrl; omega
          have hqt' : q + t.flat.length + e.flat.length + 3 ≤ te := by omega
          have hml : mdiff m (onesOf m a s1) < 2 ^ z.n := mdiff_lt HM.out
          have hm256 : m < 4611686018427387904 := by omega
          have ho256 : onesOf m a s1 < 4611686018427387904 := by
            have h1 := onesOf_lt HM.out n8 a s1
            have h2 : 2 ^ z.n ≤ 2 ^ 8 := Nat.pow_le_pow_right (by decide) n8
            omega
          have han := bits_andNot64 m (onesOf m a s1) hm256 ho256
          have HAN := Lib.hid han
          have HML := Lib.hid hml
          clear hm256 ho256 hml
          have HE := Lib.hid he
          have HDE := Lib.hid hde
          clear he hde
          have hol := onesOf_lt HM.out n8 a s1
          have HEND := Lib.hid hend
          have HDT := Lib.hid hdt
          have HT := Lib.hid ht
          have HOL := Lib.hid hol
          have hlen2 : q + t.flat.length + e.flat.length + 2 < z.l.length := by omega
          clear hq1 hq1' hq2 hq4 hdr hrun hr' hwt hrl HQ hend hdt ht hol hm0 hxx
          rw [hop]
          clear hop
          obtain ⟨c0, c1, c2, c3, c4, c5⟩ := hS5.cells
          have d0 : w5.cell? ⟨wr.heap.size, 0, none⟩ = some (.int .i64 11) := cell_of_heap HB5.out 0
          have d1 : w5.cell? ⟨wr.heap.size, 1, none⟩ = some (.int .i64 a) := cell_of_heap HB5.out 1
          have hbw5 : wr.heap.size < w5.heap.size := lt_of_block HB5.out
          have hR5 := hS5.run.lst.more (show z.B ≤ w5.heap.size by omega)
          rw [HA.out] at c0 hR5
          go_wp2_with fail
          refine (l4End_c _ z.ca z.l q _ hR5 hl hql2).mono ?_
          rintro e w6 ⟨rfl, hb6⟩
          rw [HEND.out]
          have hX6 := Ext.of_below hb6
          have hS6 := hS5.ext hX6 (by omega)
          have hst6 := hst5.trans (Stp.of_ext hX6 (by omega))
          replace d0 := hX6.cell d0
          replace d1 := hX6.cell d1
          clear c0 c1 c2 c3 c4 c5 hR5 hS5 hst5 hX6 hb6
          go_wp2_with fail
          refine (ones_c hS6.run hok.nbt m HM.out a ha).mono ?_
          rintro e w7 ⟨rfl, rfl⟩
          have hon : onesOf m a (nbt s1) = onesOf m a s1 := rfl
          rw [hon]
          have hbd5 := hbd.beat q m
          replace hS6 : WR w6 z ob pb U uc (beat q m s1) := ⟨hS6.run, hS6.oc, hS6.pc, hS6.acc, hS6.oB, hS6.pB, hS6.pk, hS6.pm⟩
          go_wp2_with fail
          refine (HIH.out t.flat.length htl t (d - 1) (Nat.le_refl _) HT.out w6 z ob pb U uc (beat q m s1) (q + 1) (onesOf m a s1) (q + t.flat.length + 1) _ _ _ (cElse :: (e.flat ++ cEnd :: (r'.flat ++ rest))) hS6 hok5 hbd5 HOL.out HDT.out (by omega) hl (by omega) (by have := hst6.size; omega) (by simp [beat]; omega) HV.out (by omega) (by first | rfl | omega) rfl).mono ?_
          rintro e1 w8 ⟨rfl, U3, uc3, hS8, hst8⟩
          replace hst6 := hst6.trans hst8
          have hok8 := run_ok t (d - 1) (q + 1) (onesOf m a s1) (beat q m s1) HT.out HOL.out hok5
          have hbd8 := run_bd t (q + 1) (onesOf m a s1) (beat q m s1) hbd5
          have hbt := run_beats t (q + 1) (onesOf m a s1) (beat q m s1)
          have hbl1 : (beat q m s1).beats.length = s1.beats.length + 1 := by simp [beat]
          have hwt8 : (t.run (q + 1) (onesOf m a s1) (beat q m s1)).beats.length + e.wt + r'.wt ≤ 1000000000 := by omega
          clear hbt hbl1 hS6 d0 d1 hst8
          go_wp2_with fail
          generalize t.run (q + 1) (onesOf m a s1) (beat q m s1) = s8 at *
          refine (HIH.out e.flat.length hel e (d - 1) (Nat.le_refl _) HE.out w8 z ob pb U3 uc3 s8 (q + t.flat.length + 2) (mdiff m (onesOf m a s1)) (q + t.flat.length + e.flat.length + 2) _ _ _ (cEnd :: (r'.flat ++ rest)) hS8 hok8 hbd8 HML.out HDE.out (by omega) hl (by omega) (by have := hst6.size; omega) (by omega) HV.out (by omega) (by first | rfl | omega) (by first | exact HAN.out | omega)).mono ?_
          rintro e1 w9 ⟨rfl, U4, uc4, hS9, hst9⟩
          replace hst6 := hst6.trans hst9
          have hok9 := run_ok e (d - 1) (q + t.flat.length + 2) (mdiff m (onesOf m a s1)) s8 HE.out HML.out hok8
          have hbd9 := run_bd e (q + t.flat.length + 2) (mdiff m (onesOf m a s1)) s8 hbd8
          have hbt := run_beats e (q + t.flat.length + 2) (mdiff m (onesOf m a s1)) s8
          have hwt9 : (e.run (q + t.flat.length + 2) (mdiff m (onesOf m a s1)) s8).beats.length + r'.wt ≤ 1000000000 := by omega
          clear hbt hS8 hst9 han
          go_wp2
          go_roundw
          case rel =>
            have hr := HR.out
            exact ⟨r', q + t.flat.length + e.flat.length + 3, U4, uc4, _, by (congr 1; first | done | omega), Lib.hid ⟨hr.2.1, hr.2.2.1, hr.2.2.2, hr.1⟩, hqt', hS9, hok9, hbd9, hwt9, hrl', hst6⟩
          case measure => simp [intOf]; omega
        | loop a c t r' =>
          have hq := HQ.out
          obtain ⟨hq1, hq2, hq3, hq4⟩ := hq
          obtain ⟨ha, hc, hd1, ht, hr'⟩ := hq3
          have hq1' : z.l.drop q = cLoop a c :: (t.flat ++ cEnd :: (r'.flat ++ rest)) := by rw [hq1]; simp [Blk.flat]
          obtain ⟨hend, hdt, hdr⟩ := end_iff ht hq1'
          have hxx := (drop_cons hq1').1
          obtain rfl : x = cLoop a c := by have h := HX.out; rw [hxx] at h; injection h with h; exact h.symm
          have hop : opB (cLoop a c) = true := rfl
          have hm0 : ¬ m = 0 := by intro e; subst e; simp at h0
          have hrun : Blk.run (.loop a c t r') q m s1 = r'.run (q + t.flat.length + 2) m (turnsOf (fun m s => t.run (q + 1) m s) a c.toNat m (beat q m s1)) := by
            simp only [Blk.run]; rw [if_neg hm0]
          have hlen : q + t.flat.length + 2 + r'.flat.length = te := by simp [Blk.flat] at hq2; omega
          have HR := Lib.hid (And.intro (hq4.trans hrun) (And.intro hdr (And.intro hlen hr')))
          have hwt1 : s1.beats.length + 1 + c.toNat * t.wt + r'.wt ≤ 1000000000 := by simp only [Blk.wt] at hwt; omega
          have hrl' : r'.flat.length ≤ b.flat.length := by simp [Blk.flat] at hrl; omega
          have htl : t.flat.length < N := by simp [Blk.flat] at hrl; omega
          have hqt' : q + t.flat.length + 2 ≤ te := by omega
          have hol := onesOf_lt HM.out n8 a s1
          have HEND := Lib.hid hend
          have HDT := Lib.hid hdt
          have HT := Lib.hid ht
          have HOL := Lib.hid hol
          have hlen2 : q + t.flat.length + 1 < z.l.length := by omega
          clear hq1 hq1' hq2 hq4 hdr hrun hr' hwt hrl HQ hend hdt ht hol hm0 hxx
          rw [hop]
          clear hop
          obtain ⟨c0, c1, c2, c3, c4, c5⟩ := hS5.cells
          have d0 : w5.cell? ⟨wr.heap.size, 0, none⟩ = some (.int .i64 13) := cell_of_heap HB5.out 0
          have d1 : w5.cell? ⟨wr.heap.size, 1, none⟩ = some (.int .i64 a) := cell_of_heap HB5.out 1
          have d2 : w5.cell? ⟨wr.heap.size, 2, none⟩ = some (.int .i64 c) := cell_of_heap HB5.out 2
          have hbw5 : wr.heap.size < w5.heap.size := lt_of_block HB5.out
          have hR5 := hS5.run.lst.more (show z.B ≤ w5.heap.size by omega)
          rw [HA.out] at c0 hR5
          go_wp2_with fail
          refine (l4End_c _ z.ca z.l q _ hR5 hl hql2).mono ?_
          rintro e w6 ⟨rfl, hb6⟩
          rw [HEND.out]
          have hX6 := Ext.of_below hb6
          have hS6 := hS5.ext hX6 (by omega)
          have hst6 := hst5.trans (Stp.of_ext hX6 (by omega))
          replace d0 := hX6.cell d0
          replace d1 := hX6.cell d1
          have HB6 : Hid (w6.heap[wr.heap.size]? = some (.cells #[.int .i64 13, .int .i64 a, .int .i64 c, .int .i64 0] 76 (0, 0))) := Lib.hid (hX6.heap_ HB5.out)
          replace d2 := hX6.cell d2
          clear c0 c1 c2 c3 c4 c5 hR5 hS5 hst5 hX6 hb6
          go_wp2_with fail
          refine (ones_c hS6.run hok.nbt m HM.out a ha).mono ?_
          rintro e w7 ⟨rfl, rfl⟩
          have hon : onesOf m a (nbt s1) = onesOf m a s1 := rfl
          rw [hon]
          have hbd5 := hbd.beat q m
          replace hS6 : WR w6 z ob pb U uc (beat q m s1) := ⟨hS6.run, hS6.oc, hS6.pc, hS6.acc, hS6.oB, hS6.pB, hS6.pk, hS6.pm⟩
          have hcB : ((c.toNat : Nat) : Int) = c := by omega
          have hbl1 : (beat q m s1).beats.length = s1.beats.length + 1 := by simp [beat]
          have HTO := Lib.hid (show turnsOf (fun m s => t.run (q + 1) m s) a c.toNat m (beat q m s1) = turnsOf (fun m s => t.run (q + 1) m s) a (c.toNat - 0) m (beat q m s1) from rfl)
          have hwt6 : (beat q m s1).beats.length + (c.toNat - 0) * t.wt + r'.wt ≤ 1000000000 := by rw [Nat.sub_zero]; omega
          have hm0 : m < 2 ^ z.n := HM.out
          have hw6 := hst6.size
          have hone : onesOf m a (beat q m s1) = onesOf m a s1 := rfl
          rw [← hone]
          generalize hs0e : beat q m s1 = s0 at *
          have hm0' := Lib.hid hm0
          clear hbl1 hm0 hone hon
          rw [← hcB] at d2 HB6
          have hcn : c.toNat ≤ 4 := by omega
          generalize c.toNat = cn at *
          clear hcB
          go_wp2
          obtain ⟨wo, rfl⟩ : ∃ wo : World, wo = wr := ⟨_, rfl⟩
          go_loopw [17, 16] (fun tv lv wl => WPRel w z ob pb wo.heap.size a (cn : Int) cn t q m s0 r'.wt tv lv wl) (fun tv _ _ => cn - (intOf tv).toNat)
          case atStart => exact ⟨0, m, U, uc, s0, Nat.zero_le _, rfl, rfl, hm0', HTO, hS6, hok5, hbd5, hwt6, HB6, hst6⟩
          case round =>
            clear hS6 hok5 hbd5 hwt6 HB6 hst6 hw6 hs5 hbw5 d0 d1 d2 HTO
            obtain ⟨j, mj, U3, uc3, sj, hj, rfl, rfl, HMJ, HTJ, hSj, hokj, hbdj, hwtj, HBj, hstj⟩ := hrel
            have d1 : wr.cell? ⟨wo.heap.size, 1, none⟩ = some (.int .i64 a) := cell_of_heap HBj.out 1
            have d2 : wr.cell? ⟨wo.heap.size, 2, none⟩ = some (.int .i64 cn) := cell_of_heap HBj.out 2
            have hlj := onesOf_lt HMJ.out n8 a sj
            have HLJ := Lib.hid hlj
            have hl256 : onesOf mj a sj < 256 := Nat.lt_of_lt_of_le hlj (Nat.pow_le_pow_right (by decide) n8)
            have hszj := hstj.size
            clear hlj
            by_cases hjc : j < cn
            · by_cases hl0 : onesOf mj a sj = 0
              · have HZ := Lib.hid hl0
                rw [hl0]
                have hz : (((0 : Nat) : Int) != 0) = false := by simp
                clear hl0 d1
                go_wp2
                go_roundw
                case rel =>
                  have hr := HR.out
                  have e1 := turns_zero (f := fun m s => t.run (q + 1) m s) (fun s => run_zero t _ s) a (cn - j) mj sj HZ.out
                  exact ⟨r', q + t.flat.length + 2, U3, uc3, sj, by (congr 1; first | done | omega), Lib.hid ⟨hr.2.1, hr.2.2.1, hr.2.2.2, by rw [hr.1, HTJ.out, e1]⟩, hqt', hSj, hokj, hbdj, by omega, hrl', hstj⟩
                case measure => simp [intOf]; omega
              · have hz : (((onesOf mj a sj : Nat) : Int) != 0) = true := by rw [bne_iff_ne]; omega
                have HTS := Lib.hid (turns_succ (fun m s => t.run (q + 1) m s) a hjc mj sj)
                have hwj2 : sj.beats.length + t.wt + (cn - (j + 1)) * t.wt + r'.wt ≤ 1000000000 := by
                  have : (cn - j) * t.wt = t.wt + (cn - (j + 1)) * t.wt := by
                    rw [show cn - j = (cn - (j + 1)) + 1 by omega, Nat.add_mul]; omega
                  omega
                clear hl0
                go_wp2_with fail
                refine (HIH.out t.flat.length htl t (d - 1) (Nat.le_refl _) HT.out wr z ob pb U3 uc3 sj (q + 1) (onesOf mj a sj) (q + t.flat.length + 1) _ _ _ (cEnd :: (r'.flat ++ rest)) hSj hokj hbdj HLJ.out HDT.out (by omega) hl (by omega) (by omega) (by omega) HV.out (by omega) (by first | rfl | omega) rfl).mono ?_
                rintro e1 w8 ⟨rfl, U4, uc4, hS8, hst8⟩
                have HB8 := Lib.hid (hst8.code _ _ HBj.out)
                have hst9 := hstj.trans hst8
                have hok8 := run_ok t (d - 1) (q + 1) (onesOf mj a sj) sj HT.out HLJ.out hokj
                have hbd8 := run_bd t (q + 1) (onesOf mj a sj) sj hbdj
                have hbt := run_beats t (q + 1) (onesOf mj a sj) sj
                have hwt8 : (t.run (q + 1) (onesOf mj a sj) sj).beats.length + (cn - (j + 1)) * t.wt + r'.wt ≤ 1000000000 := by omega
                have d1' : w8.cell? ⟨wo.heap.size, 1, none⟩ = some (.int .i64 a) := cell_of_heap HB8.out 1
                clear hbt hst8 d1 d2 hSj hokj hbdj
                generalize t.run (q + 1) (onesOf mj a sj) sj = s8 at *
                go_wp2_with fail
                refine (ones_c hS8.run hok8.nbt (onesOf mj a sj) HLJ.out a ha).mono ?_
                rintro e1 w9 ⟨rfl, rfl⟩
                go_wp2
                go_roundw
                case rel => exact ⟨j + 1, onesOf mj a sj, U4, uc4, s8, by omega, by go_num, rfl, HLJ, Lib.hid (by rw [HTJ.out, HTS.out]), hS8, hok8, hbd8, hwt8, HB8, hst9⟩
                case measure => simp [intOf]; omega
            · obtain rfl : j = cn := by omega
              clear d1
              go_wp2
              go_roundw
              case rel =>
                have hr := HR.out
                exact ⟨r', q + t.flat.length + 2, U3, uc3, sj, by (congr 1; first | done | omega), Lib.hid ⟨hr.2.1, hr.2.2.1, hr.2.2.2, by rw [hr.1, HTJ.out, Nat.sub_self]; rfl⟩, hqt', hSj, hokj, hbdj, by omega, hrl', hstj⟩
              case measure => simp [intOf]; omega
    · go_wp2
      go_end0
      have hq := HQ.out
      have hrn : r.flat.length = 0 := by omega
      have hr0 : r = .nil := by
        cases r with
        | nil => rfl
        | _ => simp [Blk.flat] at hrn
      subst hr0
      have e : b.run p m s = s1 := hq.2.2.2
      exact ⟨rfl, U, uc, by rw [e]; exact hS, hst⟩

theorem SR.down {w : World} {z : SW} {T : Option Addr} {tc : Nat} {sp : Bool} {s : LS} (h : SR w z T tc sp s) {b : Nat} (hb : b ≤ z.B) (hl : RdC w b z.A z.l) : SR w { z with B := b } T tc sp s :=
  ⟨h.blk, Nat.le_trans hb h.gB, OR.mono h.out hb, fun k hk => OR.mono (h.inn k hk) hb, OR.mono h.mem hb, OR.mono h.trc hb, h.inj, h.mne, hl⟩

def AccPost (w : World) (s : LS) (e : Ending) (w' : World) : Prop :=
  ∃ (U : Option Addr) (uc : Nat), e = .returned (.slice U s.accs.length uc) ∧ RdQ w' w'.heap.size U s.accs ∧ Below w.heap.size w w'

set_option maxRecDepth 100000 in
set_option maxHeartbeats 8000000 in
theorem l9List_c (A Am : Option Addr) (ca cm : Nat) (l : List Cd) (n : Nat) (mem : List Int) (b : Blk) (w : World) (hA : RdC w w.heap.size A l) (hM : RdI w w.heap.size Am mem) (hb : b.ok 3) (hl : l = b.flat) (hv : ∀ x ∈ l, cvOk x = true) (h40 : l.length ≤ 40)
    (hn1 : 1 ≤ n) (hn8 : n ≤ 8) (hm : wordsOk mem) (hm1 : 1 ≤ mem.length) (hm2 : mem.length ≤ 32) :
    Calls Tryz.prog 137 #[.slice A l.length ca, .int .i64 n, .slice Am mem.length cm] w (AccPost w (runT b n mem)) := by
  have HL := Lib.hid hl
  have HV := Lib.hid hv
  clear hl hv
  obtain ⟨mb0, mo0, y0, rfl, _, _, _⟩ := hM.at_ (k := 0) (by omega)
  have hmk : ∀ w : World, (Instr.makeSlice 24 (.int .i64 4) (.int .i64 4)).run Tryz.prog w = .ok (.slice (some ⟨w.heap.size, 0, none⟩) 4 4) (w.alloc (.cells (zeroRow (.int .i64 0) 4) 3)) := make_int 4 (by omega)
  go_enter Tryz.func137, Tryz.ntmps137
  go_upto_region 2 with (fail)
  have hE0 : OR (w.alloc (.cells #[] 130)) w.heap.size 130 4 (some ⟨w.heap.size, 0, none⟩) 0 0 [] := OR.lit w w.heap.size 130 4 0 #[] (Nat.le_refl _) (by omega) rfl
  have hE1 := OR.alloc hE0 (.cells #[.slice (some ⟨w.heap.size, 0, none⟩) 0 0] 95)
  have hob := heap_alloc_new (w.alloc (.cells #[] 130)) (.cells #[.slice (some ⟨w.heap.size, 0, none⟩) 0 0] 95)
  have hbA : Below w.heap.size w ((w.alloc (.cells #[] 130)).alloc (.cells #[.slice (some ⟨w.heap.size, 0, none⟩) 0 0] 95)) := (by repeat (first | exact Below.refl _ _ | assumption | refine Below.alloc ?_ (by simp <;> omega) _ | refine Below.setCell ?_ (by simp <;> omega) _ | refine Below.drew ?_))
  simp only [World.size_alloc] at hob
  have hsA : ((w.alloc (.cells #[] 130)).alloc (.cells #[.slice (some ⟨w.heap.size, 0, none⟩) 0 0] 95)).heap.size = w.heap.size + 2 := by simp
  generalize (w.alloc (.cells #[] 130)).alloc (.cells #[.slice (some ⟨w.heap.size, 0, none⟩) 0 0] 95) = wA at *
  clear hE0
  obtain ⟨ob, hobe⟩ : ∃ o, w.heap.size + 1 = o := ⟨_, rfl⟩
  rw [hobe] at hob ⊢
  have hobl : ob < wA.heap.size := by omega
  have hob0 : w.heap.size ≤ ob := by omega
  clear hsA hobe
  have HE1 := Lib.hid hE1
  have HOB := Lib.hid hob
  clear hE1 hob
  have hAA := (hA.below hbA).more hbA.size
  have hMA := (hM.below hbA).more hbA.size
  have HA0 := Lib.hid (hA.below hbA)
  have hM1 := Lib.hid (hMA.below ((Below.refl wA.heap.size wA).alloc (Nat.le_refl _) (.cells #[] 3)))
  have ho0 := Lib.hid (OI.empty_ wA wA.heap.size (Nat.le_refl _))
  clear hA hM hMA
  go_wp2_with (at_builtin; refine app_rd 24 3 _ 1 8 Tryz.underlying24 infoInt rfl (by decide) (by decide) rfl _ _ rfl wA.heap.size _ 0 0 _ ho0.out rfl wA.heap.size ⟨mb0, mo0, none⟩ mem.length cm _ rfl hM1.out (ints_one mem) ?hn ?hb ?_)
  case hn => omega
  case hb => simp
  intro A' c' w1 ho1 hg1
  have hb1 := below_gr ((Below.refl wA.heap.size wA).alloc (Nat.le_refl _) (.cells #[] 3)) (by simp) ho0.out (Nat.le_refl _) hg1
  replace ho1 : OI w1 wA.heap.size A' mem.length c' mem := by unfold OI; simpa using ho1
  obtain ⟨mb, rfl, -, hmbl, -⟩ := OR.at_ ho1 (by omega)
  clear hM1 ho0 hg1
  go_wp2_with fail
  have hAR : AR (w1.alloc (.cells #[.slice A l.length ca, .int .i64 n, .slice none 0 0, .slice (some ⟨mb, 0, none⟩) mem.length c', .slice none 0 0, .bool false, .slice none 0 0, .bool false] 102)) wA.heap.size w1.heap.size A ca l n mb c' mem none 0 none 0 (fun _ => 0) 0 := by
    have hs1 := hb1.size
    have hX := Ext.alloc w1 (.cells #[.slice A l.length ca, .int .i64 n, .slice none 0 0, .slice (some ⟨mb, 0, none⟩) mem.length c', .slice none 0 0, .bool false, .slice none 0 0, .bool false] 102)
    refine ⟨?_, hs1, OR.nil_ _ _ _ _, fun j hj => by omega, OR.ext ho1 hX, OR.nil_ _ _ _ _, fun i j hi => by omega, fun j hj => by omega, ?_⟩
    · exact heap_alloc_new w1 (.cells #[.slice A l.length ca, .int .i64 n, .slice none 0 0, .slice (some ⟨mb, 0, none⟩) mem.length c', .slice none 0 0, .bool false, .slice none 0 0, .bool false] 102)
    · exact (hAA.below hb1).below ((hX.below).mono hs1)
  have hbL : Below wA.heap.size wA (w1.alloc (.cells #[.slice A l.length ca, .int .i64 n, .slice none 0 0, .slice (some ⟨mb, 0, none⟩) mem.length c', .slice none 0 0, .bool false, .slice none 0 0, .bool false] 102)) := hb1.alloc hb1.size _
  generalize w1.alloc (.cells #[.slice A l.length ca, .int .i64 n, .slice none 0 0, .slice (some ⟨mb, 0, none⟩) mem.length c', .slice none 0 0, .bool false, .slice none 0 0, .bool false] 102) = w2 at *
  generalize w1.heap.size = g at *
  clear ho1 hb1 hmbl
  clear w1
  go_loopw [9] (fun kv wr => ALRel wA g A ca l n mb c' mem none 0 kv wr) (fun kv _ => n - (intOf kv).toNat)
  case atStart => exact ⟨0, none, 0, _, Nat.zero_le _, rfl, hAR, hbL⟩
  case round =>
    clear hAR hbL
    obtain ⟨k, R, rc, rk, hk, rfl, hR, hb2⟩ := hrel
    have hBr := hb2.size
    have hblk := hR.blk
    have c2 : wr.cell? ⟨g, 2, none⟩ = some (.slice R k rc) := cell_of_heap hblk 2
    have HR := Lib.hid hR
    by_cases hlt : k < n
    · obtain ⟨i0, hi0, hz0, hz1, hz2⟩ := info_parts infoRows
      have hOR := Lib.hid (OR.drew (OR.alloc (OR.alloc hR.out (.cells (zeroRow (.int .i64 0) 4) 3)) (.cells #[.slice (some ⟨wr.heap.size, 0, none⟩) 4 4] 24)))
      have hgl : g < wr.heap.size := lt_of_block hblk
      have hne : Value.ownBlock (.slice R k rc) ≠ some g := own_ne hR.out hblk (by decide)
      have hnew := heap_alloc_new (wr.alloc (.cells (zeroRow (.int .i64 0) 4) 3)) (.cells #[.slice (some ⟨wr.heap.size, 0, none⟩) 4 4] 24)
      simp only [World.size_alloc] at hnew
      have f2 := free_of_heap hblk 2
      have h1 := (Below.heap_alloc wr (.cells (zeroRow (.int .i64 0) 4) 3) g hgl).trans hblk
      have h2 := (Below.heap_alloc (wr.alloc (.cells (zeroRow (.int .i64 0) 4) 3)) (.cells #[.slice (some ⟨wr.heap.size, 0, none⟩) 4 4] 24) g (by simp; omega)).trans h1
      clear hR
      go_wp2_with fail
      go_region_law ((refine step_append_lies _ (by rfl) _ _ _ (by rfl) wA.heap.size 24 i0 _ 1 24 Tryz.underlying25 hi0 hz0 hz1 hz2 rfl (by omega) (.slice R k rc) k _ (by rfl) hOR.out ⟨wr.heap.size + 1, 0, none⟩ 1 1 [.slice (some ⟨wr.heap.size, 0, none⟩) 4 4] (by rfl) (by rfl) (World.news_of_block (cs := #[.slice (some ⟨wr.heap.size, 0, none⟩) 4 4]) (t := 24) (fr := (0, 0)) hnew) (by simp [Value.oneCell']) (by omega) (by unfold maxLen; omega) (by omega) (by simp; omega) (wr.heap.size + 2) (by simp) ?_; intro gg cap w3 ho3 hgrow hat hlt3; have f3 := free_of_heap ((hgrow.block g (by simp; omega) (fun e => hne e.symm)).trans h2) 2; have c3 := cell_of_heap ((hgrow.block g (by simp; omega) (fun e => hne e.symm)).trans h2) 2))
      all_goals
        have hst := HR.out.step hBr (cs := zeroRow (.int .i64 0) 4) ((toList_madeCells_one _ _).trans rfl) (grown_drew2 hgrow) ho3
        clear c2 hblk h1 h2 f2 hnew hOR ho3 hgrow c3 f3 hat
        obtain ⟨hR', hbS⟩ := hst
        have hb3 := hb2.trans hbS
        go_wp2
        refine ⟨⟨k + 1, _, cap, _, by omega, by go_num, hR', hb3⟩, ?_⟩
        simp [intOf]; omega
    · obtain rfl : k = n := by omega
      obtain ⟨rg, rfl, -, -, -⟩ := OR.at_ hR.out (by omega)
      have hSR := hR.done
      have hmm : 2 ^ k - 1 < 2 ^ k := by have : 0 < 2 ^ k := Nat.pow_pos (by decide); omega
      have hwt := wt_le b 3 hb
      rw [← HL.out] at hwt
      have hall : maskAllI (k : Int) = ((2 ^ k - 1 : Nat) : Int) := by
        have : k = 1 ∨ k = 2 ∨ k = 3 ∨ k = 4 ∨ k = 5 ∨ k = 6 ∨ k = 7 ∨ k = 8 := by omega
        rcases this with rfl | rfl | rfl | rfl | rfl | rfl | rfl | rfl <;> decide
      have HALL := Lib.hid hall
      have hobr : wr.heap[ob]? = some (.cells #[.slice (some ⟨w.heap.size, 0, none⟩) 0 0] 95 (0, 0)) := (hb2.block ob (by omega)).trans HOB.out
      have hE0r : OR wr w.heap.size 130 4 (some ⟨w.heap.size, 0, none⟩) 0 0 [] := OR.below HE1.out hb2 (Nat.le_refl _)
      have hXp := Ext.alloc wr (.cells #[.int .i64 0] 3)
      have hWR : WR (wr.alloc (.cells #[.int .i64 0] 3)) ⟨w.heap.size, g, A, ca, l, k, rg, rc, rk, mb, c'⟩ ob wr.heap.size (some ⟨w.heap.size, 0, none⟩) 0 (LS.start k mem) := by
        have hS2 := (hSR.ext hXp hBr).down (b := w.heap.size) (show w.heap.size ≤ wA.heap.size by omega) (by
          exact (HA0.out.below (hb2.mono (by omega))).below ((hXp.below).mono (by omega)))
        refine ⟨hS2, hXp.heap_ hobr, heap_alloc_new wr (.cells #[.int .i64 0] 3), OR.ext hE0r hXp, hob0, show w.heap.size ≤ wr.heap.size by omega, fun j hj => ?_, ?_⟩
        · have := (OR.base_le (hR.inn j hj)).2
          intro e
          have e' : wr.heap.size = rk j := e
          omega
        · have := (OR.base_le hR.mem).2
          intro e
          have e' : wr.heap.size = mb := e
          omega
      have hbp : Below w.heap.size w (wr.alloc (.cells #[.int .i64 0] 3)) := (below_trans hbA (by omega) hb2).alloc (by omega) _
      have hBp : w.heap.size ≤ (wr.alloc (.cells #[.int .i64 0] 3)).heap.size := hbp.size
      clear hall c2 hblk hR hSR hobr hE0r hXp HR
      go_wp2_with fail
      refine (sMaskAll_c k _).mono ?_
      rintro e w5 ⟨rfl, rfl⟩
      go_wp2_with fail
      refine (watch_c b.flat.length b 3 (Nat.le_refl _) hb _ ⟨w.heap.size, g, A, ca, l, k, rg, rc, rk, mb, c'⟩ ob wr.heap.size _ 0 (LS.start k mem) 0 (2 ^ k - 1) l.length 0 l.length _ [] hWR (SOk.start hn8 hm hm1 hm2) (Bd.start _ _) hmm (by simp [HL.out]) (by simp [HL.out]) (show l.length ≤ 1000000000 by omega) (Nat.le_refl _) hBp (by simp [LS.start]; omega) HV.out rfl rfl HALL.out).mono ?_
      rintro e w6 ⟨rfl, U, uc, hS', hst'⟩
      obtain ⟨-, -, -, -, c4, -⟩ := hS'.cells
      have HQ := Lib.hid (OR.reads hS'.acc)
      have hbe := hbp.trans hst'.bel
      clear hWR hS'
      have e0 : b.run 0 (2 ^ k - 1) (LS.start k mem) = runT b k mem := rfl
      rw [e0] at c4 HQ
      generalize runT b k mem = S at *
      go_wp2
      go_ret
      exact ⟨U, uc, rfl, HQ.out, hbe⟩

set_option maxRecDepth 100000 in
set_option maxHeartbeats 4000000 in
theorem sLockAccesses_c (A Am : Option Addr) (ca cm : Nat) (l : List Cd) (n : Int) (m : List Int) (w : World) (hA : RdC w w.heap.size A l) (hM : RdI w w.heap.size Am m) (hl : l.length ≤ 1000000000) (hml : m.length ≤ 1000000000) :
    Calls Tryz.prog 113 #[.slice A l.length ca, .int .i64 n, .slice Am m.length cm] w fun e w' => ∃ (U : Option Addr) (uc : Nat), e = .returned (.slice U (accsOf l n m).length uc) ∧ RdQ w' w'.heap.size U (accsOf l n m) ∧ Below w.heap.size w w' := by
  cases hok : lockOk l n m with
  | false =>
    have HT := Lib.hid (show accsOf l n m = [] by simp [accsOf, hok])
    go_enter Tryz.func113, Tryz.ntmps113
    go_wp2_with fail
    refine (sl8Ok_c A Am ca cm l n m w hA hM hl hml).mono ?_
    rintro e w1 ⟨rfl, hb1⟩
    rw [hok]
    go_wp2
    go_ret
    rw [HT.out]
    exact ⟨_, 0, rfl, OR.reads (OR.lit w1 w.heap.size 130 4 0 #[] hb1.size (by omega) rfl), hb1.alloc hb1.size _⟩
  | true =>
    have h' := hok
    simp only [lockOk, Bool.and_eq_true] at h'
    obtain ⟨hp, hin, hmem⟩ := h'
    obtain ⟨k, rfl⟩ : ∃ k : Nat, n = (k : Int) := ⟨n.toNat, by have := (inR_iff.1 hin).1; omega⟩
    have hk1 : 1 ≤ k := by have := (inR_iff.1 hin).1; omega
    have hk8 : k ≤ 8 := by have := (inR_iff.1 hin).2; omega
    have HT := Lib.hid (show accsOf l k m = (runT (treeOf l) k m).accs by simp [accsOf, hok, lockS])
    obtain ⟨hm0, hm1, hm2⟩ := memOk_iff.1 hmem
    obtain ⟨ht1, ht2⟩ := treeOf_spec hp
    have h40 := (pv_iff.1 hp).1
    have HT1 := Lib.hid ht1
    have HT2 := Lib.hid ht2
    clear ht1 ht2
    go_enter Tryz.func113, Tryz.ntmps113
    go_wp2_with fail
    refine (sl8Ok_c A Am ca cm l k m w hA hM hl hml).mono ?_
    rintro e w1 ⟨rfl, hb1⟩
    rw [hok]
    have HH := Lib.hid (And.intro hok (And.intro hp (And.intro hin hmem)))
    clear hok hp hin hmem
    go_wp2_with fail
    refine (l9List_c A Am ca cm l k m (treeOf l) w1 ((hA.below hb1).more hb1.size) ((hM.below hb1).more hb1.size) HT1.out HT2.out.symm (pv_all HH.out.2.1) h40 hk1 hk8 hm0 hm1 hm2).mono ?_
    rintro e w2 ⟨U, uc, rfl, HQ, hb2⟩
    have hb3 := below_trans hb1 (Nat.le_refl _) hb2
    generalize (runT (treeOf l) k m).accs = qs at *
    have HQ := Lib.hid HQ
    go_wp2
    go_ret
    rw [HT.out]
    exact ⟨U, uc, rfl, HQ.out, hb3⟩

end Go.Proofs.YtelbfeidpcojmaaGreat
