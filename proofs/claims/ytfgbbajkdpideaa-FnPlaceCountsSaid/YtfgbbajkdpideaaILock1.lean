/- The program's lanes of a mask. -/
import Derived.Test.YtfgbbajkdpideaaLock0
import Derived.Test.YtfgbbajkdpideaaMem2
import Derived.Test.YtfgbbajkdpideaaBits
import Derived.Test.YtfgbbajkdpideaaValid1
import Derived.Test.YtfgbbajkdpideaaLock1
import Derived.Test.YtfgbbajkdpideaaBlocks0
import Derived.Test.YtfgbbajkdpideaaMem
import Derived.Deep.Cut
import Derived.StillTailTactics
import Derived.IntWalk
import Derived.Deep.RegionHeld3
import Derived.Deep.RegionLaw
import Derived.Deep.AppendLies
namespace Go.Proofs.Ytfgbbajkdpideaa
open Go.RowKit
set_option linter.unusedVariables false
set_option linter.unusedSimpArgs false

def natsI (xs : List Nat) : List Int := xs.map fun (k : Nat) => (k : Int)
def LOfRel (w : World) (m : Nat) (lv kv : Value) (wr : World) : Prop :=
  ∃ (k : Nat) (A : Option Addr) (c : Nat), k ≤ 8 ∧ kv = .int .i64 k ∧ lv = .slice A (lanesTo m k).length c ∧ OI wr w.heap.size A (lanesTo m k).length c (natsI (lanesTo m k)) ∧ Below w.heap.size w wr

theorem bit_one (m k : Nat) : (((((m >>> k) % 2 : Nat) : Int)) == 1) = m.testBit k := by
  have h2 : m.testBit k = decide ((m >>> k) % 2 = 1) := by
    have : (m >>> k).testBit 0 = m.testBit k := by rw [Nat.testBit_shiftRight]; simp
    rw [← this, Nat.testBit_zero]
  rw [h2]
  generalize m >>> k = q
  cases h : decide (q % 2 = 1) with
  | true => rw [beq_iff_eq]; have := of_decide_eq_true h; omega
  | false => rw [beq_eq_false_iff_ne]; have := of_decide_eq_false h; omega

set_option maxRecDepth 100000 in
set_option maxHeartbeats 1000000 in
theorem lanesOf_c (m : Nat) (w : World) (hm : m < 65536) :
    Calls Try.prog 66 #[.int .i64 m] w (fun e w' => ∃ A c, e = .returned (.slice A (lanesOf m).length c) ∧ OI w' w.heap.size A (lanesOf m).length c (lanesI m) ∧ Below w.heap.size w w') := by
  go_enter Try.func66, Try.ntmps66
  go_wp2
  go_loopw [3, 5] (fun lv kv wr => LOfRel w m lv kv wr) (fun _ kv _ => 8 - (intOf kv).toNat)
  case atStart => exact ⟨0, none, 0, Nat.zero_le _, rfl, rfl, OI.nil_ _ _, Below.refl _ _⟩
  case round =>
    obtain ⟨k, A, c, hk, rfl, rfl, ho, hb⟩ := hrel
    have hs := hb.size
    by_cases hlt : k < 8
    · have hba := bit_and m k hm
      have hb1 := bit_one m k
      generalize ((((m >>> k) % 2 : Nat)) : Int) = qb at hba hb1
      have hll := lanesTo_len m k
      have HL := Lib.hid (lanesTo_succ m k)
      have HO := Lib.hid (ho.alloc (.cells #[.int .i64 k] 3))
      cases hbit : m.testBit k with
      | true =>
        rw [hbit] at hb1
        have HB := Lib.hid (show lanesTo m (k + 1) = lanesTo m k ++ [k] by rw [HL.out, hbit]; rfl)
        have hlen : (lanesTo m (k + 1)).length = (lanesTo m k).length + 1 := by rw [HB.out]; simp
        clear hbit
        go_wp2_with (at_builtin; refine app_int rfl _ _ rfl w.heap.size A _ c _ HO.out rfl k wr.heap.size 1 rfl ?hc ?hn ?hb ?_)
        case hc => simp [go_sem]
        case hn => omega
        case hb => simp; omega
        intro A' c' w2 ho2 hg2
        have hb2 := below_app hb hs ho (Nat.le_refl _) hg2
        go_wp2
        go_roundw
        case rel => exact ⟨k + 1, A', c', by omega, by go_num, by rw [hlen], by rw [hlen]; unfold natsI at *; rw [HB.out, List.map_append]; exact ho2, hb2⟩
        case measure => simp [intOf]; omega
      | false =>
        rw [hbit] at hb1
        have HB := Lib.hid (show lanesTo m (k + 1) = lanesTo m k by rw [HL.out, hbit]; rfl)
        clear hbit
        go_wp2
        go_roundw
        case rel => exact ⟨k + 1, A, c, by omega, by go_num, by rw [HB.out], by rw [HB.out]; exact ho, hb⟩
        case measure => simp [intOf]; omega
    · obtain rfl : k = 8 := by omega
      go_wp2
      go_ret
      exact ⟨A, c, rfl, ho, hb⟩

def beatsV (bs : List (Nat × Nat)) : List Value := bs.flatMap fun q => [.int .i64 q.1, .int .i64 q.2]
theorem beatsV_length : ∀ bs : List (Nat × Nat), (beatsV bs).length = bs.length * 2
  | [] => rfl
  | q :: bs => by simp [beatsV, List.flatMap_cons] at *; have := beatsV_length bs; simp [beatsV] at this; omega
theorem beatsV_append (a b : List (Nat × Nat)) : beatsV (a ++ b) = beatsV a ++ beatsV b := by simp [beatsV]
def accsV (qs : List Acc) : List Value := qs.flatMap fun q => [.int .i64 q.who, .int .i64 q.cell, .bool q.wr, .int .i64 q.ph]
theorem accsV_length : ∀ qs : List Acc, (accsV qs).length = qs.length * 4
  | [] => rfl
  | q :: qs => by simp [accsV, List.flatMap_cons] at *; have := accsV_length qs; simp [accsV] at this; omega
theorem accsV_append (a b : List Acc) : accsV (a ++ b) = accsV a ++ accsV b := by simp [accsV]
def regRows (rk : Nat → Nat) (n : Nat) : List Value := (List.range n).map fun k => .slice (some ⟨rk k, 0, none⟩) 4 4
theorem regRows_get (rk : Nat → Nat) (n k : Nat) (h : k < n) : (regRows rk n)[k]? = some (.slice (some ⟨rk k, 0, none⟩) 4 4) := by simp [regRows, h]

/-- A machine: a program with its blocks. -/
structure MK (w : World) (B mg : Nat) (A : Option Addr) (ca : Nat) (l : List Cd) (ob : Nat) (ga : Nat → Nat) : Prop where
  blk : w.heap[mg]? = some (.cells #[.slice A l.length ca, .slice (some ⟨ob, 0, none⟩) l.length l.length] 84 (0, 0))
  gB : B ≤ mg
  own : OR w B 71 1 (some ⟨ob, 0, none⟩) l.length l.length (ownRow l ga l.length)
  bks : ∀ p, p < l.length → opB (cdAt l p) = true → B ≤ ga p ∧ w.heap[ga p]? = some (.cells #[.int .i64 p, .int .i64 (endOf l p).2, .int .i64 (endOf l p).1] 70 (0, 0))
  lst : RdC w B A l

section
variable {w w' : World} {B mg : Nat} {A : Option Addr} {ca : Nat} {l : List Cd} {ob : Nat} {ga : Nat → Nat}
theorem MK.keep (h : MK w B mg A ca l ob ga) (hb : Below B w w') (h1 : ∀ (k : Nat) (cs : Array Value), w.heap[k]? = some (.cells cs 84 (0, 0)) → w'.heap[k]? = some (.cells cs 84 (0, 0)))
    (h2 : ∀ (k : Nat) (cs : Array Value), w.heap[k]? = some (.cells cs 71 (0, 0)) → w'.heap[k]? = some (.cells cs 71 (0, 0)))
    (h3 : ∀ (k : Nat) (cs : Array Value), w.heap[k]? = some (.cells cs 70 (0, 0)) → w'.heap[k]? = some (.cells cs 70 (0, 0))) : MK w' B mg A ca l ob ga :=
  ⟨h1 _ _ h.blk, h.gB, h.own.byType h2, fun p hp ho => ⟨(h.bks p hp ho).1, h3 _ _ (h.bks p hp ho).2⟩, h.lst.below hb⟩
theorem MK.ext (h : MK w B mg A ca l ob ga) (hx : Ext w w') (hB : B ≤ w.heap.size) : MK w' B mg A ca l ob ga :=
  h.keep ((hx.below).mono hB) (fun _ _ hk => hx.heap_ hk) (fun _ _ hk => hx.heap_ hk) (fun _ _ hk => hx.heap_ hk)
theorem MK.cells (h : MK w B mg A ca l ob ga) : w.cell? ⟨mg, 0, none⟩ = some (.slice A l.length ca) ∧ w.cell? ⟨mg, 1, none⟩ = some (.slice (some ⟨ob, 0, none⟩) l.length l.length) := by
  constructor <;> (rw [cell_of_heap h.blk]; rfl)
theorem MK.glt (h : MK w B mg A ca l ob ga) : mg < w.heap.size := lt_of_block h.blk
/-- The block of an instruction that opens one. -/
theorem MK.own_open (h : MK w B mg A ca l ob ga) {p : Nat} (hp : p < l.length) (ho : opB (cdAt l p) = true) :
    w.cell? ⟨ob, p, none⟩ = some (.pointer (some ⟨ga p, 0, none⟩)) ∧ w.cell? ⟨ga p, 0, none⟩ = some (.int .i64 p) ∧ w.cell? ⟨ga p, 1, none⟩ = some (.int .i64 (endOf l p).2) ∧ w.cell? ⟨ga p, 2, none⟩ = some (.int .i64 (endOf l p).1) := by
  refine ⟨(OR.at0 h.own).1 p _ ?_, ?_, ?_, ?_⟩
  · rw [ownRow_get _ _ _ _ hp, if_pos hp]
    simp [ownV, ownP, ho, ptrV]
  all_goals (rw [cell_of_heap (h.bks p hp ho).2]; rfl)
end

/-- Where the parts of a run lie. -/
structure IW where
  B : Nat
  g : Nat
  mg : Nat
  A : Option Addr
  ca : Nat
  l : List Cd
  ob : Nat
  ga : Nat → Nat
  n : Nat
  rg : Nat
  rc : Nat
  rk : Nat → Nat
  mb : Nat
  mc : Nat

def IW.row (z : IW) (s : LS) (T : Option Addr) (tc : Nat) (U : Option Addr) (uc : Nat) : Array Value :=
  #[.pointer (some ⟨z.mg, 0, none⟩), .slice (some ⟨z.rg, 0, none⟩) z.n z.rc, .slice (some ⟨z.mb, 0, none⟩) s.mem.length z.mc, .slice T s.beats.length tc, .slice U s.accs.length uc, .int .i64 s.phase, .nilFunc]

structure IR (w : World) (z : IW) (T : Option Addr) (tc : Nat) (U : Option Addr) (uc : Nat) (s : LS) : Prop where
  blk : w.heap[z.g]? = some (.cells (z.row s T tc U uc) 64 (0, 0))
  gB : z.B ≤ z.g
  mach : MK w z.B z.mg z.A z.ca z.l z.ob z.ga
  out : OR w z.B 27 1 (some ⟨z.rg, 0, none⟩) z.n z.rc (regRows z.rk z.n)
  inn : ∀ k, k < z.n → OI w z.B (some ⟨z.rk k, 0, none⟩) 4 4 (s.regs.getD k [])
  mem : OI w z.B (some ⟨z.mb, 0, none⟩) s.mem.length z.mc s.mem
  trc : OR w z.B 56 2 T s.beats.length tc (beatsV s.beats)
  acc : OR w z.B 98 4 U s.accs.length uc (accsV s.accs)
  inj : ∀ j k, j < z.n → k < z.n → z.rk j = z.rk k → j = k
  mne : ∀ k, k < z.n → z.rk k ≠ z.mb

/-- Nothing below B is turned, and no block but those of a run's own types. -/
structure StI (B : Nat) (w w' : World) : Prop where
  bel : Below B w w'
  kp : ∀ (k : Nat) (cs : Array Value) (t : TypeId), t ≠ 64 → t ≠ 3 → t ≠ 56 → t ≠ 98 → w.heap[k]? = some (.cells cs t (0, 0)) → w'.heap[k]? = some (.cells cs t (0, 0))
theorem StI.refl (B : Nat) (w : World) : StI B w w := ⟨Below.refl _ _, fun _ _ _ _ _ _ _ h => h⟩
theorem StI.trans {B : Nat} {a b c : World} (h : StI B a b) (k : StI B b c) : StI B a c := ⟨h.bel.trans k.bel, fun i cs t h1 h2 h3 h4 hi => k.kp i cs t h1 h2 h3 h4 (h.kp i cs t h1 h2 h3 h4 hi)⟩
theorem StI.of_ext {B : Nat} {w w' : World} (h : Ext w w') (hB : B ≤ w.heap.size) : StI B w w' := ⟨h.below.mono hB, fun _ _ _ _ _ _ _ hk => h.heap_ hk⟩
theorem StI.of_below {B : Nat} {w w' : World} (h : Below w.heap.size w w') (hB : B ≤ w.heap.size) : StI B w w' := StI.of_ext (Ext.of_below h) hB
theorem StI.size {B : Nat} {w w' : World} (h : StI B w w') : w.heap.size ≤ w'.heap.size := h.bel.size
theorem StI.code {B : Nat} {w w' : World} (h : StI B w w') {k : Nat} {cs : Array Value} (hk : w.heap[k]? = some (.cells cs 50 (0, 0))) : w'.heap[k]? = some (.cells cs 50 (0, 0)) :=
  h.kp k cs _ (by decide) (by decide) (by decide) (by decide) hk
theorem StI.blkp {B : Nat} {w w' : World} (h : StI B w w') {k : Nat} {cs : Array Value} (hk : w.heap[k]? = some (.cells cs 70 (0, 0))) : w'.heap[k]? = some (.cells cs 70 (0, 0)) :=
  h.kp k cs _ (by decide) (by decide) (by decide) (by decide) hk

section
variable {w w' : World} {z : IW} {T U : Option Addr} {tc uc : Nat} {s : LS}
theorem MK.sti {B mg : Nat} {A : Option Addr} {ca : Nat} {l : List Cd} {ob : Nat} {ga : Nat → Nat} (h : MK w B mg A ca l ob ga) (hs : StI B w w') : MK w' B mg A ca l ob ga :=
  h.keep hs.bel (fun k cs hk => hs.kp k cs _ (by decide) (by decide) (by decide) (by decide) hk) (fun k cs hk => hs.kp k cs _ (by decide) (by decide) (by decide) (by decide) hk) (fun k cs hk => hs.kp k cs _ (by decide) (by decide) (by decide) (by decide) hk)
theorem IR.ext (h : IR w z T tc U uc s) (hx : Ext w w') (hB : z.B ≤ w.heap.size) : IR w' z T tc U uc s :=
  ⟨hx.heap_ h.blk, h.gB, h.mach.ext hx hB, h.out.ext hx, fun k hk => OR.ext (h.inn k hk) hx, OR.ext h.mem hx, h.trc.ext hx, h.acc.ext hx, h.inj, h.mne⟩
theorem IR.cells (h : IR w z T tc U uc s) : w.cell? ⟨z.g, 0, none⟩ = some (.pointer (some ⟨z.mg, 0, none⟩)) ∧ w.cell? ⟨z.g, 1, none⟩ = some (.slice (some ⟨z.rg, 0, none⟩) z.n z.rc) ∧
    w.cell? ⟨z.g, 2, none⟩ = some (.slice (some ⟨z.mb, 0, none⟩) s.mem.length z.mc) ∧ w.cell? ⟨z.g, 3, none⟩ = some (.slice T s.beats.length tc) ∧
    w.cell? ⟨z.g, 4, none⟩ = some (.slice U s.accs.length uc) ∧ w.cell? ⟨z.g, 5, none⟩ = some (.int .i64 s.phase) ∧ w.cell? ⟨z.g, 6, none⟩ = some .nilFunc := by
  refine ⟨?_, ?_, ?_, ?_, ?_, ?_, ?_⟩ <;> (rw [cell_of_heap h.blk]; rfl)
theorem IR.rowAt (h : IR w z T tc U uc s) {k : Nat} (hk : k < z.n) : w.cell? ⟨z.rg, k, none⟩ = some (.slice (some ⟨z.rk k, 0, none⟩) 4 4) :=
  (OR.at0 h.out).1 k _ (regRows_get _ _ _ hk)
theorem IR.glt (h : IR w z T tc U uc s) : z.g < w.heap.size := lt_of_block h.blk
theorem IR.free (h : IR w z T tc U uc s) (j : Nat) : w.frozen? ⟨z.g, j, none⟩ = false := free_of_heap h.blk j
theorem IR.t_g (h : IR w z T tc U uc s) : Value.ownBlock (.slice T s.beats.length tc) ≠ some z.g := own_ne h.trc h.blk (by decide)
theorem IR.u_g (h : IR w z T tc U uc s) : Value.ownBlock (.slice U s.accs.length uc) ≠ some z.g := own_ne h.acc h.blk (by decide)

/-- An append to one row, and a store of its slice: rows of other types are kept. -/
theorem OR.app_set {wb w2 : World} {base e size n c : Nat} {A : Option Addr} {xs : List Value} {base' eT sT nT tT : Nat} {AT : Option Addr} {ts : List Value} (h : OR wb base e size A n c xs) (hT : OR wb base' eT sT AT nT tT ts)
    (hne : eT ≠ e) (hg : wb.grownBy w2 (Value.ownBlock (.slice AT nT tT))) {g : Nat} {cg : Array Value} {tg : TypeId} (hblk : w2.heap[g]? = some (.cells cg tg (0, 0))) (hneg : e ≠ tg) (j : Nat) (v : Value) :
    OR (w2.setCell ⟨g, j, none⟩ v) base e size A n c xs := by
  refine h.byType fun b cs hb => ?_
  have h2 := (hg.block b (lt_of_block hb) (fun e' => own_ne hT hb hne e'.symm)).trans hb
  rw [heap_set_other (type_ne h2 hblk hneg)]
  exact h2
theorem heap_app_set {wb w2 : World} {base' eT sT nT tT : Nat} {AT : Option Addr} {ts : List Value} (hT : OR wb base' eT sT AT nT tT ts) (hg : wb.grownBy w2 (Value.ownBlock (.slice AT nT tT)))
    {g : Nat} {cg : Array Value} {tg : TypeId} (hblk : w2.heap[g]? = some (.cells cg tg (0, 0))) (j : Nat) (v : Value) {b : Nat} {cs : Array Value} {t : TypeId} (hb : wb.heap[b]? = some (.cells cs t (0, 0))) (hne : eT ≠ t) (hneg : t ≠ tg) :
    (w2.setCell ⟨g, j, none⟩ v).heap[b]? = some (.cells cs t (0, 0)) := by
  have h2 := (hg.block b (lt_of_block hb) (fun e' => own_ne hT hb hne e'.symm)).trans hb
  rw [heap_set_other (type_ne h2 hblk hneg)]
  exact h2

/-- One instruction of lane k (its access has been noted before). -/
theorem IR.simp (h : IR w z T tc U uc s) {x : Cd} {k mn : Nat} (hk : k < z.n) (hok : SOk z.n s) (hmn : mn = s.mem.length) (hB : z.B ≤ w.heap.size) {r : List Int} (hr : r = s.regs.getD k [])
    (hs : Simp1 w z.B (z.rk k) 4 z.mb mn z.mc x k r s.mem w') : IR w' z T tc U uc { s with regs := s.regs.set k (simp1 x k (s.regs.getD k []) s.mem).1, mem := (simp1 x k (s.regs.getD k []) s.mem).2 } ∧ StI z.B w w' := by
  subst hmn hr
  obtain ⟨h1, h2, h3⟩ := hs
  obtain ⟨cur, hc⟩ := OR.heap_ (h.inn k hk)
  obtain ⟨cum, hcm⟩ := OR.heap_ h.mem
  have hl := simp1_len x k (s.regs.getD k []) s.mem
  have hkl : k < s.regs.length := by rw [hok.len]; exact hk
  have hb : Below z.B w w' := h3.below (OR.block (h.inn k hk) _ rfl).1 (OR.block h.mem _ rfl).1 hB
  have kt : ∀ (b : Nat) (cs : Array Value) (t : TypeId), t ≠ 3 → w.heap[b]? = some (.cells cs t (0, 0)) → w'.heap[b]? = some (.cells cs t (0, 0)) :=
    fun b cs t ht hi => (h3.block b (lt_of_block hi) (type_ne hi hc ht) (type_ne hi hcm ht)).trans hi
  have hst : StI z.B w w' := ⟨hb, fun i cs t _ ht _ _ hi => kt i cs t ht hi⟩
  refine ⟨⟨?_, h.gB, h.mach.sti hst, h.out.byType fun b cs hi => kt b cs _ (by decide) hi, ?_, ?_, h.trc.byType fun b cs hi => kt b cs _ (by decide) hi, h.acc.byType fun b cs hi => kt b cs _ (by decide) hi, h.inj, h.mne⟩, hst⟩
  · rw [kt _ _ _ (by decide) h.blk]
    simp only [IW.row, hl.2]
  · intro j hj
    by_cases e : j = k
    · subst e
      have : (s.regs.set j (simp1 x j (s.regs.getD j []) s.mem).1).getD j [] = (simp1 x j (s.regs.getD j []) s.mem).1 := by
        simp [List.getD_eq_getElem?_getD, hkl]
      rw [this]
      exact h1
    · have : (s.regs.set k (simp1 x k (s.regs.getD k []) s.mem).1).getD j [] = s.regs.getD j [] := by
        simp [List.getD_eq_getElem?_getD, List.getElem?_set_ne (fun h => e h.symm)]
      rw [this]
      refine OR.off (h.inn j hj) h3 ?_ ?_
      · intro e2; exact e (h.inj j k hj hk (by injection e2))
      · intro e2; exact h.mne j hj (by injection e2)
  · show OI w' z.B _ (simp1 x k (s.regs.getD k []) s.mem).2.length _ _
    rw [hl.2]
    exact h2

/-- A store into cell 3, behind an append to the steps. -/
theorem IR.beat_ {wb w2 : World} (h : IR w z T tc U uc s) (hX : Ext w wb) (hB : z.B ≤ w.heap.size) {p m : Nat} {T' : Option Addr} {tc' : Nat} (hg : wb.grownBy w2 (Value.ownBlock (.slice T s.beats.length tc)))
    (ho : OR w2 z.B 56 2 T' (s.beats.length + 1) tc' (beatsV s.beats ++ [.int .i64 p, .int .i64 m])) :
    IR (w2.setCell ⟨z.g, 3, none⟩ (.slice T' (s.beats.length + 1) tc')) z T' tc' U uc (beat p m s) ∧ StI z.B w (w2.setCell ⟨z.g, 3, none⟩ (.slice T' (s.beats.length + 1) tc')) := by
  have hwb := h.ext hX hB
  have kp : ∀ k, k < wb.heap.size → Value.ownBlock (.slice T s.beats.length tc) ≠ some k → w2.heap[k]? = wb.heap[k]? := fun k hk hne => hg.block k hk (fun e => hne e.symm)
  have hblk : w2.heap[z.g]? = some (.cells (z.row s T tc U uc) 64 (0, 0)) := (kp _ hwb.glt hwb.t_g).trans hwb.blk
  have hbl : (beat p m s).beats.length = s.beats.length + 1 := by simp [beat]
  have hlst : Below z.B wb w2 := ⟨hg.os, hg.tape, hg.output, hg.size, fun k hk => kp k (by have := hX.size; omega) (fun e => by have := (OR.block hwb.trc k e).1; omega)⟩
  have hb2 : Below z.B w (w2.setCell ⟨z.g, 3, none⟩ (.slice T' (s.beats.length + 1) tc')) := (((hX.below).mono hB).trans hlst).setCell h.gB _
  have hst : StI z.B w (w2.setCell ⟨z.g, 3, none⟩ (.slice T' (s.beats.length + 1) tc')) := ⟨hb2, fun i cs t h1 _ h3 _ hi => heap_app_set hwb.trc hg hblk 3 _ (hX.heap_ hi) (Ne.symm h3) h1⟩
  refine ⟨⟨?_, h.gB, h.mach.sti hst, hwb.out.app_set hwb.trc (by decide) hg hblk (by decide) 3 _, fun k hk => OR.app_set (hwb.inn k hk) hwb.trc (by decide) hg hblk (by decide) 3 _, OR.app_set hwb.mem hwb.trc (by decide) hg hblk (by decide) 3 _, ?_, hwb.acc.app_set hwb.trc (by decide) hg hblk (by decide) 3 _, h.inj, h.mne⟩, hst⟩
  · rw [heap_set_same hblk]
    simp [IW.row, hbl]
    exact ⟨rfl, rfl, rfl⟩
  · rw [hbl]
    have e : beatsV (beat p m s).beats = beatsV s.beats ++ [.int .i64 p, .int .i64 m] := by
      show beatsV (s.beats ++ [(p, m)]) = _
      rw [beatsV_append]; rfl
    rw [e]
    exact OR.set_other ho (p := ⟨z.g, 3, none⟩) (own_ne ho hblk (by decide)) _

def addAcc (q : Acc) (s : LS) : LS := { s with accs := s.accs ++ [q] }
/-- A store into cell 4, behind an append to the accesses. -/
theorem IR.acc_ {wb w2 : World} (h : IR w z T tc U uc s) (hX : Ext w wb) (hB : z.B ≤ w.heap.size) {q : Acc} {U' : Option Addr} {uc' : Nat} (hg : wb.grownBy w2 (Value.ownBlock (.slice U s.accs.length uc)))
    (ho : OR w2 z.B 98 4 U' (s.accs.length + 1) uc' (accsV s.accs ++ [.int .i64 q.who, .int .i64 q.cell, .bool q.wr, .int .i64 q.ph])) :
    IR (w2.setCell ⟨z.g, 4, none⟩ (.slice U' (s.accs.length + 1) uc')) z T tc U' uc' (addAcc q s) ∧ StI z.B w (w2.setCell ⟨z.g, 4, none⟩ (.slice U' (s.accs.length + 1) uc')) := by
  have hwb := h.ext hX hB
  have kp : ∀ k, k < wb.heap.size → Value.ownBlock (.slice U s.accs.length uc) ≠ some k → w2.heap[k]? = wb.heap[k]? := fun k hk hne => hg.block k hk (fun e => hne e.symm)
  have hblk : w2.heap[z.g]? = some (.cells (z.row s T tc U uc) 64 (0, 0)) := (kp _ hwb.glt hwb.u_g).trans hwb.blk
  have hbl : (addAcc q s).accs.length = s.accs.length + 1 := by simp [addAcc]
  have hlst : Below z.B wb w2 := ⟨hg.os, hg.tape, hg.output, hg.size, fun k hk => kp k (by have := hX.size; omega) (fun e => by have := (OR.block hwb.acc k e).1; omega)⟩
  have hb2 : Below z.B w (w2.setCell ⟨z.g, 4, none⟩ (.slice U' (s.accs.length + 1) uc')) := (((hX.below).mono hB).trans hlst).setCell h.gB _
  have hst : StI z.B w (w2.setCell ⟨z.g, 4, none⟩ (.slice U' (s.accs.length + 1) uc')) := ⟨hb2, fun i cs t h1 _ _ h4 hi => heap_app_set hwb.acc hg hblk 4 _ (hX.heap_ hi) (Ne.symm h4) h1⟩
  refine ⟨⟨?_, h.gB, h.mach.sti hst, hwb.out.app_set hwb.acc (by decide) hg hblk (by decide) 4 _, fun k hk => OR.app_set (hwb.inn k hk) hwb.acc (by decide) hg hblk (by decide) 4 _, OR.app_set hwb.mem hwb.acc (by decide) hg hblk (by decide) 4 _, hwb.trc.app_set hwb.acc (by decide) hg hblk (by decide) 4 _, ?_, h.inj, h.mne⟩, hst⟩
  · rw [heap_set_same hblk]
    simp [IW.row, hbl]
    exact ⟨rfl, rfl, rfl⟩
  · rw [hbl]
    have e : accsV (addAcc q s).accs = accsV s.accs ++ [.int .i64 q.who, .int .i64 q.cell, .bool q.wr, .int .i64 q.ph] := by
      show accsV (s.accs ++ [q]) = _
      rw [accsV_append]; rfl
    rw [e]
    exact OR.set_other ho (p := ⟨z.g, 4, none⟩) (own_ne ho hblk (by decide)) _

/-- A store of the number of barriers. -/
theorem IR.pha (h : IR w z T tc U uc s) (hB : z.B ≤ w.heap.size) (k : Nat) : IR (w.setCell ⟨z.g, 5, none⟩ (.int .i64 k)) z T tc U uc { s with phase := k } ∧ StI z.B w (w.setCell ⟨z.g, 5, none⟩ (.int .i64 k)) := by
  have hb : Below z.B w (w.setCell ⟨z.g, 5, none⟩ (.int .i64 k)) := (Below.refl _ _).setCell h.gB _
  have og : ∀ {e size n c : Nat} {A : Option Addr} {xs : List Value}, OR w z.B e size A n c xs → e ≠ 64 → OR (w.setCell ⟨z.g, 5, none⟩ (.int .i64 k)) z.B e size A n c xs := fun ho hne => OR.set_other ho (p := ⟨z.g, 5, none⟩) (own_ne ho h.blk hne) _
  have hst : StI z.B w (w.setCell ⟨z.g, 5, none⟩ (.int .i64 k)) := ⟨hb, fun i cs t h1 _ _ _ hi => (heap_set_other (type_ne hi h.blk h1) _ _).trans hi⟩
  refine ⟨⟨?_, h.gB, h.mach.sti hst, og h.out (by decide), fun k hk => og (h.inn k hk) (by decide), og h.mem (by decide), og h.trc (by decide), og h.acc (by decide), h.inj, h.mne⟩, hst⟩
  rw [heap_set_same h.blk]
  rfl
end

theorem beatsV_get : ∀ (bs : List (Nat × Nat)) (k : Nat) (q : Nat × Nat), bs[k]? = some q → (beatsV bs)[k * 2]? = some (.int .i64 q.1) ∧ (beatsV bs)[k * 2 + 1]? = some (.int .i64 q.2)
  | [], k, q, h => by simp at h
  | p :: bs, 0, q, h => by
    simp at h
    subst h
    exact ⟨rfl, rfl⟩
  | p :: bs, k + 1, q, h => by
    have ih := beatsV_get bs k q (by simpa using h)
    have e : beatsV (p :: bs) = [.int .i64 p.1, .int .i64 p.2] ++ beatsV bs := rfl
    rw [e, show (k + 1) * 2 = 2 + k * 2 by omega, List.getElem?_append_right (by simp), List.getElem?_append_right (by simp; omega)]
    refine ⟨?_, ?_⟩
    · rw [← ih.1]; congr 1; simp
    · rw [← ih.2]; congr 1; simp; omega

def onesF (a : Int) (s : LS) (out k : Nat) : Nat := if s.reg k a == 0 then out else out ||| 2 ^ k
theorem onesF_of (m : Nat) (a : Int) (s : LS) : onesOf m a s = foldTo (onesF a s) m 0 (lanesOf m).length := (foldTo_all (onesF a s) m 0).symm
theorem onesF_lt (a : Int) (s : LS) (m : Nat) : ∀ j, foldTo (onesF a s) m 0 j < 256
  | 0 => by simp [foldTo]
  | j + 1 => by
    have ih := onesF_lt a s m j
    cases h : (lanesOf m)[j]? with
    | none =>
      have : (lanesOf m).length ≤ j := List.getElem?_eq_none_iff.1 h
      unfold foldTo at *
      rw [List.take_of_length_le (by omega)] at *
      exact ih
    | some k =>
      rw [foldTo_succ _ _ h]
      have hk := (lanesOf_mem.1 (List.mem_of_getElem? h)).1
      unfold onesF
      rw [show foldTo (fun out k => if (s.reg k a == 0) = true then out else out ||| 2 ^ k) m 0 j = foldTo (onesF a s) m 0 j from rfl]
      split
      · exact ih
      · exact Nat.or_lt_two_pow (n := 8) (by omega) (Nat.pow_lt_pow_right (by decide) hk)

set_option maxRecDepth 100000 in
theorem run_equalIn_func_nil {P : Program} (w : World) (d : Nat) (t : TypeId) {p r : Array TypeId} {v : Bool} (h : P.underlying t = some (.func p r v)) : (Op.equalIn (d + 1) t .nilFunc .nilFunc).run P w = .ok true w := by
  simp [Op.equalIn, run_underlying h]
set_option maxRecDepth 100000 in
theorem run_neq_func_nil {P : Program} (w : World) (t : TypeId) {p r : Array TypeId} {v : Bool} (h : P.underlying t = some (.func p r v)) : (binOp .neq t .nilFunc .nilFunc).run P w = .ok (.bool false) w := by
  simp only [binOp]
  simp [Op.equal, Op.maxDepth, run_equalIn_func_nil w 9999 t h]

def ActRel (w : World) (m : Nat) (a : Int) (s : LS) (ov jv : Value) (wr : World) : Prop :=
  ∃ j : Nat, j ≤ (lanesOf m).length ∧ jv = .int .i64 j ∧ ov = .int .i64 ((foldTo (onesF a s) m 0 j : Nat) : Int) ∧ Below w.heap.size w wr

set_option maxRecDepth 100000 in
set_option maxHeartbeats 2000000 in
theorem active_c {w : World} {z : IW} {T U : Option Addr} {tc uc : Nat} {s : LS} (h : IR w z T tc U uc s) (hok : SOk z.n s) (m : Nat) (hm : m < 2 ^ z.n) (a : Int) (ha : 0 ≤ a ∧ a ≤ 3) :
    Calls Try.prog 59 #[.pointer (some ⟨z.g, 0, none⟩), .int .i64 m, .int .i64 a] w fun e w' => e = .returned (.int .i64 (onesOf m a s)) ∧ Below w.heap.size w w' := by
  obtain ⟨a, rfl⟩ := Int.eq_ofNat_of_zero_le ha.1
  have a3 : a ≤ 3 := by omega
  have n8 := hok.n8
  have m256 : m < 2 ^ 8 := Nat.lt_of_lt_of_le hm (Nat.pow_le_pow_right (by decide) n8)
  have m256' : m < 256 := by omega
  have HL := Lib.hid (fun k => lanesOf_lt (k := k) hm)
  have h8 := lanesOf_len m
  clear hm m256
  go_enter Try.func59, Try.ntmps59
  go_wp2_with fail
  refine (lanesOf_c m w (by omega)).mono ?_
  rintro e w1 ⟨A, c, rfl, hO, hb1⟩
  have hI := h.ext (Ext.of_below hb1) (by have := h.gB; have := h.glt; omega)
  replace hO := hO.reads
  clear h
  go_wp2
  go_loopw [7, 13] (fun ov jv wr => ActRel w1 m a s ov jv wr) (fun _ jv _ => (lanesOf m).length - (intOf jv).toNat)
  case atStart => exact ⟨0, Nat.zero_le _, rfl, rfl, Below.refl _ _⟩
  case round =>
    obtain ⟨j, hj, rfl, rfl, hb⟩ := hrel
    by_cases hlt : j < (lanesOf m).length
    · have hk : (lanesOf m)[j]? = some ((lanesOf m)[j]) := List.getElem?_eq_getElem hlt
      generalize (lanesOf m)[j] = k at hk
      have hkn : k < z.n := HL.out k (List.mem_of_getElem? hk)
      obtain ⟨b, off, rfl, hbB, hc⟩ := hO.2 (by omega)
      have g1 := cell_kept hb (hc j (.int .i64 k) (by rw [List.getElem?_map, lanesI_get hk]; rfl))
      have hI2 := hI.ext (Ext.of_below hb) (by have := hI.gB; have := hI.glt; omega)
      obtain ⟨c0, c1, -, -, -, -, -⟩ := hI2.cells
      have hrow := hI2.rowAt hkn
      have hr4 := hok.get hkn
      have hreg := (OI.at0 (hI2.inn k hkn)).1 a _ (rg_get hr4.1 a3)
      have HT := Lib.hid (foldTo_succ (onesF (a : Int) s) 0 hk)
      have hu := onesF_lt (a : Int) s m j
      have HV : s.reg k (a : Int) = rg (s.regs.getD k []) (a : Int) := rfl
      have hk7 : k ≤ 7 := by omega
      have hjI : (j : Int) < ((lanesOf m).length : Int) := by omega
      have hkI : (k : Int) < (z.n : Int) := by omega
      have hpw : 2 ^ k ≤ 2 ^ 7 := Nat.pow_le_pow_right (by decide) (by omega)
      generalize foldTo (onesF (a : Int) s) m 0 j = u at *
      generalize rg (s.regs.getD k []) (a : Int) = v at hreg HV
      clear hk hc hr4 c0 hI2
      cases hz : v == 0 with
      | true =>
        have hn : (v != 0) = false := by simp [bne, hz]
        have HZ := Lib.hid (show foldTo (onesF (a : Int) s) m 0 (j + 1) = u by rw [HT.out]; simp only [onesF, HV, hz, if_true])
        clear hz HV HT
        go_wp2
        go_roundw
        case rel => exact ⟨j + 1, by omega, by go_num, by rw [HZ.out], hb⟩
        case measure => simp [intOf]; omega
      | false =>
        have hn : (v != 0) = true := by simp [bne, hz]
        have HZ := Lib.hid (show foldTo (onesF (a : Int) s) m 0 (j + 1) = u ||| 2 ^ k by rw [HT.out]; simp only [onesF, HV, hz]; rfl)
        clear hz HV HT
        go_wp2
        go_roundw
        case rel => exact ⟨j + 1, by omega, by go_num, by rw [HZ.out, or_bit _ _ (by omega) (by omega)], hb⟩
        case measure => simp [intOf]; omega
    · obtain rfl : j = (lanesOf m).length := by omega
      go_wp2
      go_ret
      exact ⟨reti (by rw [onesF_of]), below_trans hb1 (Nat.le_refl _) hb⟩

set_option maxRecDepth 100000 in
set_option maxHeartbeats 2000000 in
theorem beat_c {w : World} {z : IW} {T U : Option Addr} {tc uc : Nat} {s : LS} (h : IR w z T tc U uc s) (p m : Nat) (hp : p ≤ 1000000) (hm : m < 256) (hl : s.beats.length ≤ 1000000000) (hB : z.B ≤ w.heap.size) :
    Calls Try.prog 58 #[.pointer (some ⟨z.g, 0, none⟩), .int .i64 p, .int .i64 m] w fun e w' => e = .returned (.tuple #[]) ∧ ∃ T' tc', IR w' z T' tc' U uc (beat p m s) ∧ StI z.B w w' := by
  obtain ⟨c0, c1, c2, c3, c4, c5, c6⟩ := h.cells
  have HT := Lib.hid (h.trc.alloc (.cells #[.int .i64 p, .int .i64 m] 56))
  have H := Lib.hid h
  have hgl := h.glt
  clear h c0 c1 c2 c4 c5
  go_enter Try.func58, Try.ntmps58
  go_wp2_with (at_builtin; refine app_row 40 56 _ 2 16 Try.underlying40 infoBeat rfl (by decide) (by decide) rfl _ _ rfl z.B T s.beats.length tc _ HT.out rfl w.heap.size 1 1 [.int .i64 p, .int .i64 m] rfl rfl ?hc ?h1 ?hn ?hb ?_)
  case hc =>
    intro j u hu
    match j, hu with
    | 0, hu => simp at hu; subst hu; simp [go_sem]
    | 1, hu => simp at hu; subst hu; simp [go_sem]
  case h1 => intro u hu; simp at hu; rcases hu with rfl | rfl <;> rfl
  case hn => omega
  case hb => simp; omega
  intro T2 tc2 w2 ho2 hg2
  have hX := Ext.alloc w (.cells #[.int .i64 p, .int .i64 m] 56)
  obtain ⟨hR, hst⟩ := H.out.beat_ hX hB hg2 ho2
  have e1 := H.out.ext hX hB
  have hblk : w2.heap[z.g]? = some (.cells (z.row s T tc U uc) 64 (0, 0)) := (hg2.block _ e1.glt (fun e => e1.t_g e.symm)).trans e1.blk
  have q3 : w2.cell? ⟨z.g, 3, none⟩ = some (.slice T s.beats.length tc) := cell_of_heap hblk 3
  have q6 : w2.cell? ⟨z.g, 6, none⟩ = some .nilFunc := cell_of_heap hblk 6
  have f3 := free_of_heap hblk 3
  have HR := Lib.hid hR
  clear hR hX e1 hblk c3 c6
  have k1 := fun w' : World => run_neq_func_nil (P := Try.prog) w' 62 Try.underlying62
  go_wp2
  go_end0
  exact ⟨rfl, T2, tc2, HR.out, hst⟩

end Go.Proofs.Ytfgbbajkdpideaa
