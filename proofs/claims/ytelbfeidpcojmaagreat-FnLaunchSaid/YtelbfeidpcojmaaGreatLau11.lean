/- Part 11 of what the claim needs. -/
import Derived.Test.YtelbfeidpcojmaaGreatLau2
import Derived.Test.YtelbfeidpcojmaaGreatLau8
import Derived.Test.YtelbfeidpcojmaaGreatLau10
import Derived.StillTailTactics
namespace Go.Proofs.YtelbfeidpcojmaaGreat
open Go.RowKit
set_option linter.unusedVariables false
set_option linter.unusedSimpArgs false

section
variable {P : Program} {a : Act} {w : World}
/-- A function's end with two results, the first a struct. -/
theorem ret_cell2 {fn : Func} {R : Ending → World → Prop} {t t2 : Tmp} {ty : TypeId} (h : fn.results = #[.cell t ty, .tmp t2]) (b : Nat) (ht : a.tmps.getD t undef = .pointer (some ⟨b, 0, none⟩)) (v : Value) (hv : a.tmps.getD t2 undef = v) (cs : Array Value) (tt : TypeId) (fr : Nat × Nat)
    (hh : w.heap[b]? = some (.cells cs tt fr)) (d : TypeDesc) (hu : P.underlying ty = some d) (hd : (match d with | .struct _ | .array _ _ => true | _ => false) = true) (hi : (P.info? ty).map (·.size) = some cs.size)
    (hf : a.defers = []) (hR : R (.returned (.tuple #[.agg cs, v])) w) : bodyPost P fn R .ret a w := by
  have hrun := run_loadVar_row (P := P) w b tt ty cs fr d hh hu hd hi
  refine bodyPost_ret ?_ hf hR
  have ht2 : a.tmps[t]?.getD undef = .pointer (some ⟨b, 0, none⟩) := by simpa using ht
  have hv2 : a.tmps[t2]?.getD undef = v := by simpa using hv
  simp [results, h, ht2, hv2, asAddr, hrun, Result.andThen]
end

/-- What is read of a run when its barriers are looked at. -/
structure SpR (w : World) (z : IW) (bs : List (Nat × Nat)) (T : Option Addr) (tc : Nat) (b : Nat) : Prop where
  c0 : w.cell? ⟨z.g, 0, none⟩ = some (.pointer (some ⟨z.mg, 0, none⟩))
  c1 : w.cell? ⟨z.g, 1, none⟩ = some (.slice (some ⟨z.rg, 0, none⟩) z.n z.rc)
  c3 : w.cell? ⟨z.g, 3, none⟩ = some (.slice T bs.length tc)
  d0 : w.cell? ⟨z.mg, 0, none⟩ = some (.slice z.A z.l.length z.ca)
  bx : w.cell? ⟨b, 0, none⟩ = some (.pointer (some ⟨z.g, 0, none⟩))
  lst : RdC w w.heap.size z.A z.l
  trc : Reads w w.heap.size 2 T bs.length (beatsV bs)

set_option maxRecDepth 100000 in
set_option maxHeartbeats 4000000 in
theorem splitF_c {w : World} {z : IW} {bs : List (Nat × Nat)} {T : Option Addr} {tc b : Nat} (h : SpR w z bs T tc b) {p m : Nat} (hp : p < z.l.length) (hm : m < 256) (hl : z.l.length ≤ 1000000000) (hn : 1 ≤ z.n ∧ z.n ≤ 8) :
    Calls Tryz.prog 105 #[.agg #[.int .i64 p, .int .i64 m], .pointer (some ⟨b, 0, none⟩)] w fun e w' => e = .returned (.bool (opAt z.l p == 10 && !(m == 2 ^ z.n - 1))) ∧ Below w.heap.size w w' := by
  obtain ⟨lb, lo, y, hzA, hbB, hy, l0, -, -, -⟩ := h.lst.at_ hp
  have d0 := h.d0
  have c0 := h.c0
  have c1 := h.c1
  have bx := h.bx
  rw [hzA] at d0
  have hop : opAt z.l p = y.op := opAt_get hy
  have HALL := Lib.hid (show maskAllI (z.n : Int) = ((2 ^ z.n - 1 : Nat) : Int) by
    have : z.n = 1 ∨ z.n = 2 ∨ z.n = 3 ∨ z.n = 4 ∨ z.n = 5 ∨ z.n = 6 ∨ z.n = 7 ∨ z.n = 8 := by omega
    rcases this with h | h | h | h | h | h | h | h <;> rw [h] <;> decide)
  have hpI : (p : Int) < (z.l.length : Int) := by omega
  rw [hop]
  have hbg := World.block_lt_of_cell? w _ c0
  have hbm := World.block_lt_of_cell? w _ d0
  have hbb := World.block_lt_of_cell? w _ bx
  have hbl := World.block_lt_of_cell? w _ l0
  have hX := Ext.alloc w (.cells #[.int .i64 p, .int .i64 m] 78)
  have hN := heap_alloc_new w (.cells #[.int .i64 p, .int .i64 m] 78)
  have n0 := cell_of_heap hN 0
  have n1 := cell_of_heap hN 1
  have hB0 := hX.below
  clear hop hy h
  cases ho : (y.op == 10) with
  | false =>
    go_enter Tryz.func105, Tryz.ntmps105
    go_wp2_with fail
    replace l0 := hX.cell l0
    replace d0 := hX.cell d0
    replace c0 := hX.cell c0
    replace c1 := hX.cell c1
    replace bx := hX.cell bx
    clear hX hN
    generalize w.alloc (.cells #[.int .i64 p, .int .i64 m] 78) = W at *
    go_quiet (fail)
    go_wp2
    go_ret
    exact ⟨rfl, hB0.trans ⟨rfl, rfl, rfl, Nat.le_refl _, fun _ _ => rfl⟩⟩
  | true =>
    go_enter Tryz.func105, Tryz.ntmps105
    go_wp2_with fail
    replace l0 := hX.cell l0
    replace d0 := hX.cell d0
    replace c0 := hX.cell c0
    replace c1 := hX.cell c1
    replace bx := hX.cell bx
    clear hX hN
    generalize w.alloc (.cells #[.int .i64 p, .int .i64 m] 78) = W at *
    have HM := Lib.hid (fun W => by have := iMaskAll_c z.n W; rw [HALL.out] at this; exact this)
    go_still_tail 24, (by kernel_rfl)
    still_call (calls_flip (HM.out _))
    repeat still_step
    try refine wpStill_nil ?_
    go_wp2
    go_ret
    refine ⟨retb ?_, hB0.trans ⟨rfl, rfl, rfl, Nat.le_refl _, fun _ _ => rfl⟩⟩
    have e : ((m : Int) == ((2 ^ z.n - 1 : Nat) : Int)) = (m == 2 ^ z.n - 1) := by
      rw [Bool.eq_iff_iff]
      simp only [beq_iff_eq]
      exact Int.natCast_inj
    rw [Bool.true_and, bne, e]

theorem splitB_take {l : List Cd} {n k : Nat} {bs : List (Nat × Nat)} {q : Nat × Nat} (hq : bs[k]? = some q) (h : splitB l n (bs.take k) = false) : splitB l n (bs.take (k + 1)) = (opAt l q.1 == 10 && !(q.2 == 2 ^ n - 1)) := by
  obtain ⟨hk, rfl⟩ := List.getElem?_eq_some_iff.1 hq
  rw [List.take_succ_eq_append_getElem hk]
  have := splitB_snoc l n (bs.take k) bs[k].1 bs[k].2
  rw [h, Bool.false_or] at this
  exact this
theorem splitB_hit {l : List Cd} {n k : Nat} {bs : List (Nat × Nat)} {q : Nat × Nat} (hq : bs[k]? = some q) (h : (opAt l q.1 == 10 && !(q.2 == 2 ^ n - 1)) = true) : splitB l n bs = true :=
  List.any_eq_true.2 ⟨q, List.mem_of_getElem? hq, h⟩
theorem SpR.below {w w' : World} {z : IW} {bs : List (Nat × Nat)} {T : Option Addr} {tc b : Nat} (h : SpR w z bs T tc b) (hb : Below w.heap.size w w') : SpR w' z bs T tc b :=
  ⟨cell_kept hb h.c0, cell_kept hb h.c1, cell_kept hb h.c3, cell_kept hb h.d0, cell_kept hb h.bx, (h.lst.below hb).more hb.size, (h.trc.below hb).more hb.size⟩

set_option maxRecDepth 100000 in
set_option maxHeartbeats 4000000 in
theorem splitI_c {w : World} {z : IW} {bs : List (Nat × Nat)} {T : Option Addr} {tc b : Nat} (h : SpR w z bs T tc b) (hin : ∀ q ∈ bs, q.1 < z.l.length ∧ q.2 < 256) (hlen : bs.length ≤ 2560) (hl : z.l.length ≤ 1000000000) (hn : 1 ≤ z.n ∧ z.n ≤ 8) :
    Calls Tryz.prog 104 #[.slice T bs.length tc, .func (Fn.func 105) #[] #[.pointer (some ⟨b, 0, none⟩)]] w fun e w' => ∃ i : Int, e = .returned (.int .i64 i) ∧ decide (0 ≤ i) = splitB z.l z.n bs ∧ (0 ≤ i → i < bs.length) ∧ Below w.heap.size w w' := by
  have HIN := Lib.hid hin
  clear hin
  go_enter Tryz.func104, Tryz.ntmps104
  go_wp2
  go_loopw [8] (fun kv wr => ∃ k : Nat, k ≤ bs.length ∧ kv = .int .i64 k ∧ Hid (splitB z.l z.n (bs.take k) = false) ∧ Below w.heap.size w wr) (fun kv _ => bs.length - (intOf kv).toNat)
  case atStart => exact ⟨0, Nat.zero_le _, rfl, Lib.hid rfl, Below.refl _ _⟩
  case round =>
    obtain ⟨k, hk, rfl, HN, hb⟩ := hrel
    by_cases hlt : k < bs.length
    · have hq : bs[k]? = some (bs[k]) := List.getElem?_eq_getElem hlt
      generalize bs[k] = q at hq
      obtain ⟨p, mm⟩ := q
      obtain ⟨hpl, hmm⟩ := HIN.out _ (List.mem_of_getElem? hq)
      have h' := h.below hb
      have HH := Lib.hid h'
      obtain ⟨g, off, rfl, hg2, hc⟩ := h'.trc.2 (by omega)
      have hcells := beatsV_get bs k _ hq
      have e0 := hc _ _ hcells.1
      have e1 := hc _ _ hcells.2
      rw [← Nat.add_assoc] at e1
      have hkI : (k : Int) < (bs.length : Int) := by omega
      have HQ := Lib.hid hq
      clear hq hcells h' hc hg2 h
      go_wp2_with fail
      refine (splitF_c HH.out hpl hmm hl hn).mono ?_
      rintro e w1 ⟨rfl, hb1⟩
      have hb2 := below_trans hb (Nat.le_refl _) hb1
      cases hs : (opAt z.l p == 10 && !(mm == 2 ^ z.n - 1)) with
      | true =>
        have HS := Lib.hid (splitB_hit HQ.out hs)
        go_wp2
        go_ret
        exact ⟨k, rfl, by rw [HS.out]; simp, fun _ => hkI, hb2⟩
      | false =>
        have HS := Lib.hid (show splitB z.l z.n (bs.take (k + 1)) = false by rw [splitB_take HQ.out HN.out]; exact hs)
        go_wp2
        go_roundw
        case rel => exact ⟨k + 1, by omega, by go_num, HS, hb2⟩
        case measure => simp [intOf]; omega
    · obtain rfl : k = bs.length := by omega
      have HN2 := Lib.hid (show splitB z.l z.n bs = false by have := HN.out; rwa [List.take_length] at this)
      go_wp2
      go_ret
      exact ⟨-1, rfl, by rw [HN2.out]; simp, fun h => by omega, hb⟩

set_option maxRecDepth 100000 in
set_option maxHeartbeats 4000000 in
theorem split_c {w : World} {z : IW} {T U : Option Addr} {tc uc : Nat} {s : LS} (h : IR w z T tc U uc s) (hin : ∀ q ∈ s.beats, q.1 < z.l.length ∧ q.2 < 256) (hlen : s.beats.length ≤ 2560) (hl : z.l.length ≤ 1000000000) (hn : 1 ≤ z.n ∧ z.n ≤ 8) (hB : z.B ≤ w.heap.size) :
    Calls Tryz.prog 70 #[.pointer (some ⟨z.g, 0, none⟩)] w fun e w' => ∃ p m : Int, e = .returned (.tuple #[.agg #[.int .i64 p, .int .i64 m], .bool (splitB z.l z.n s.beats)]) ∧ Below w.heap.size w w' := by
  obtain ⟨c0, c1, -, c3, -, -, -⟩ := h.cells
  obtain ⟨d0, -⟩ := h.mach.cells
  have hX1 := Ext.alloc w (.cells #[.pointer (some ⟨z.g, 0, none⟩)] 88)
  have hX2 := Ext.alloc (w.alloc (.cells #[.pointer (some ⟨z.g, 0, none⟩)] 88)) (.cells #[.int .i64 0, .int .i64 0] 78)
  have hX := hX1.trans hX2
  have hN1 := hX2.heap_ (heap_alloc_new w (.cells #[.pointer (some ⟨z.g, 0, none⟩)] 88))
  have hN2 := heap_alloc_new (w.alloc (.cells #[.pointer (some ⟨z.g, 0, none⟩)] 88)) (.cells #[.int .i64 0, .int .i64 0] 78)
  have hsz : (w.alloc (.cells #[.pointer (some ⟨z.g, 0, none⟩)] 88)).heap.size = w.heap.size + 1 := by simp
  rw [hsz] at hN2
  have hsr : SpR ((w.alloc (.cells #[.pointer (some ⟨z.g, 0, none⟩)] 88)).alloc (.cells #[.int .i64 0, .int .i64 0] 78)) z s.beats T tc w.heap.size :=
    ⟨hX.cell c0, hX.cell c1, hX.cell c3, hX.cell d0, cell_of_heap hN1 0, (h.mach.lst.below (hX.below.mono hB)).more (by have := hX.size; omega), (h.trc.ext hX).reads⟩
  have hsz2 := hX.size
  have hszz : ((w.alloc (.cells #[.pointer (some ⟨z.g, 0, none⟩)] 88)).alloc (.cells #[.int .i64 0, .int .i64 0] 78)).heap.size = w.heap.size + 2 := by simp
  have hbl := hX.below
  have HIN := Lib.hid hin
  generalize s.beats = bs at *
  clear h hin hX1 hX2
  have hmf : ∀ (fn : Fn) (first cap : Array Value) (w : World), (Instr.makeFunc fn first cap).run Tryz.prog w = .ok (.func fn first cap) w := fun _ _ _ _ => rfl
  have k0 := hsr.c0
  have k3 := hsr.c3
  have kb := hsr.bx
  have kn0 := cell_of_heap hN2 0
  have kn1 := cell_of_heap hN2 1
  have kf0 := free_of_heap hN2 0
  have kf1 := free_of_heap hN2 1
  clear c0 c1 c3 d0
  go_enter Tryz.func70, Tryz.ntmps70
  go_wp2_with fail
  refine (splitI_c hsr HIN.out hlen hl hn).mono ?_
  rintro e w3 ⟨i, rfl, hi, hi2, hb3⟩
  have hbw := below_trans hbl (Nat.le_refl _) hb3
  have hN3 := (hb3.block (w.heap.size + 1) (by omega)).trans hN2
  have x0 : w3.cell? ⟨w.heap.size + 1, 0, none⟩ = some (.int .i64 0) := cell_of_heap hN3 0
  have x1 : w3.cell? ⟨w.heap.size + 1, 1, none⟩ = some (.int .i64 0) := cell_of_heap hN3 1
  have f0 := free_of_heap hN3 0
  have f1 := free_of_heap hN3 1
  have q0 := cell_kept hb3 k0
  have q3 := cell_kept hb3 k3
  have qb := cell_kept hb3 kb
  have hsz3 := hb3.size
  have HR := Lib.hid (hsr.trc.below hb3)
  have HB := Lib.hid hbw
  clear k0 k3 kb kn0 kn1 kf0 kf1 hsr hbl hN1 hN2
  cases hs : splitB z.l z.n bs with
  | false =>
    rw [hs] at hi
    have hi3 : decide (i < 0) = true := decide_eq_true (by have := of_decide_eq_false hi; omega)
    clear hi hi2
    have hz1 := heap_set_same hN3 0 (.int .i64 0)
    have hz2 := heap_set_same hz1 1 (.int .i64 0)
    go_wp2_with fail
    refine ret_cell2 Tryz.results70 _ rfl _ rfl _ _ _ hz2 _ (Tryz.underlying78) rfl (by kernel_rfl) rfl ?_
    exact ⟨0, 0, by rw [hs]; rfl, (HB.out.setCell (p := ⟨w.heap.size + 1, 0, none⟩) (by simp) _).setCell (p := ⟨w.heap.size + 1, 1, none⟩) (by simp) _⟩
  | true =>
    rw [hs] at hi
    have hi3 : decide (i < 0) = false := decide_eq_false (by have := of_decide_eq_true hi; omega)
    obtain ⟨k, rfl⟩ : ∃ k : Nat, i = (k : Int) := ⟨i.toNat, by have := of_decide_eq_true hi; omega⟩
    have hk : k < bs.length := by have := hi2 (by omega); omega
    have hkI := hi2 (by omega)
    have hq : bs[k]? = some (bs[k]) := List.getElem?_eq_getElem hk
    generalize bs[k] = q at hq
    obtain ⟨g, off, rfl, hg2, hc⟩ := HR.out.2 (by omega)
    have hcells := beatsV_get bs k _ hq
    have e0 := hc _ _ hcells.1
    have e1 := hc _ _ hcells.2
    rw [← Nat.add_assoc] at e1
    have hz1 := heap_set_same hN3 0 (.int .i64 q.1)
    have hz2 := heap_set_same hz1 1 (.int .i64 q.2)
    clear hi hi2 hq hcells hc hg2
    go_wp2_with fail
    refine ret_cell2 Tryz.results70 _ rfl _ rfl _ _ _ hz2 _ (Tryz.underlying78) rfl (by kernel_rfl) rfl ?_
    exact ⟨q.1, q.2, by rw [hs]; rfl, (HB.out.setCell (p := ⟨w.heap.size + 1, 0, none⟩) (by simp) _).setCell (p := ⟨w.heap.size + 1, 1, none⟩) (by simp) _⟩

theorem lock_in {l : List Cd} {n : Int} {m : List Int} (h : lockOk l n m = true) : ∀ q ∈ (lockS l n.toNat m).beats, q.1 < l.length ∧ q.2 < 256 := by
  intro q hq
  have h' := h
  simp only [lockOk, Bool.and_eq_true] at h'
  have hn := inR_iff.1 h'.2.1
  have := trace_in (l := l) (n := n) (m := m) q (by unfold traceOf; rw [if_pos h]; exact hq)
  have h8 : 2 ^ n.toNat ≤ 2 ^ 8 := Nat.pow_le_pow_right (by decide) (by omega)
  exact ⟨this.1, by have := this.2.2; omega⟩

/-- What RunLock returns. -/
noncomputable def runOf (l : List Cd) (n : Int) (mem : List Int) : List Int := if lockOk l n mem then (lockS l n.toNat mem).mem else []
noncomputable def wholeOf (l : List Cd) (n : Int) (mem : List Int) : Bool := lockOk l n mem && !splitB l n.toNat (lockS l n.toNat mem).beats
theorem lockS_len {l : List Cd} {n : Int} {mem : List Int} (h : lockOk l n mem = true) : SOk n.toNat (lockS l n.toNat mem) := by
  simp only [lockOk, Bool.and_eq_true] at h
  obtain ⟨hp, hn, hm⟩ := h
  have hn' := inR_iff.1 hn
  obtain ⟨h0, h1, h2⟩ := memOk_iff.1 hm
  obtain ⟨k1, -⟩ := treeOf_spec hp
  have hmm : 2 ^ n.toNat - 1 < 2 ^ n.toNat := by have : 0 < 2 ^ n.toNat := Nat.pow_pos (by decide); omega
  exact run_ok _ 3 0 _ _ k1 hmm (SOk.start' (by omega) h0 h1 h2)
theorem runOf_len (l : List Cd) (n : Int) (mem : List Int) : (runOf l n mem).length ≤ 32 := by
  unfold runOf
  split
  · rename_i h
    exact (lockS_len h).mem2
  · simp


/-- The slice at A reads as accesses. -/
def RdQ (w : World) (B : Nat) (A : Option Addr) (l : List Acc) : Prop := Reads w B 4 A l.length (accsV l)
/-- The slice at A reads as beats. -/
def RdT (w : World) (B : Nat) (A : Option Addr) (l : List (Nat × Nat)) : Prop := Reads w B 2 A l.length (beatsV l)
theorem accsV_get (l : List Acc) : ∀ (k : Nat) (q : Acc), l[k]? = some q → ∀ j, j < 4 → (accsV l)[k * 4 + j]? = ([.int .i64 q.who, .int .i64 q.cell, .bool q.wr, .int .i64 q.ph] : List Value)[j]? := by
  induction l with
  | nil => intro k q h; simp at h
  | cons y l ih =>
    intro k q h j hj
    cases k with
    | zero =>
      simp at h
      subst h
      simp only [accsV, List.flatMap_cons, Nat.zero_mul, Nat.zero_add]
      rw [List.getElem?_append_left (by simpa using hj)]
    | succ k =>
      simp only [List.getElem?_cons_succ] at h
      have := ih k q h j hj
      simp only [accsV, List.flatMap_cons] at this ⊢
      rw [List.getElem?_append_right (by simp; omega), ← this]
      congr 1
      simp; omega
theorem beatsV_at (l : List (Nat × Nat)) : ∀ (k : Nat) (q : Nat × Nat), l[k]? = some q → ∀ j, j < 2 → (beatsV l)[k * 2 + j]? = ([.int .i64 q.1, .int .i64 q.2] : List Value)[j]? := by
  induction l with
  | nil => intro k q h; simp at h
  | cons y l ih =>
    intro k q h j hj
    cases k with
    | zero =>
      simp at h
      subst h
      simp only [beatsV, List.flatMap_cons, Nat.zero_mul, Nat.zero_add]
      rw [List.getElem?_append_left (by simpa using hj)]
    | succ k =>
      simp only [List.getElem?_cons_succ] at h
      have := ih k q h j hj
      simp only [beatsV, List.flatMap_cons] at this ⊢
      rw [List.getElem?_append_right (by simp; omega), ← this]
      congr 1
      simp; omega
section
variable {w w' : World} {B B' : Nat} {A : Option Addr} {l : List Acc} {t : List (Nat × Nat)}
theorem RdQ.below (h : RdQ w B A l) (hb : Below B w w') : RdQ w' B A l := Reads.below h hb
theorem RdQ.more (h : RdQ w B A l) (hB : B ≤ B') : RdQ w B' A l := Reads.more h hB
theorem RdT.below (h : RdT w B A t) (hb : Below B w w') : RdT w' B A t := Reads.below h hb
theorem RdT.more (h : RdT w B A t) (hB : B ≤ B') : RdT w B' A t := Reads.more h hB
theorem RdQ.at_ (h : RdQ w B A l) {k : Nat} (hk : k < l.length) :
    ∃ b off q, A = some ⟨b, off, none⟩ ∧ b < B ∧ l[k]? = some q ∧
      w.cell? ⟨b, off + k * 4, none⟩ = some (.int .i64 q.who) ∧ w.cell? ⟨b, off + k * 4 + 1, none⟩ = some (.int .i64 q.cell) ∧
      w.cell? ⟨b, off + k * 4 + 2, none⟩ = some (.bool q.wr) ∧ w.cell? ⟨b, off + k * 4 + 3, none⟩ = some (.int .i64 q.ph) := by
  obtain ⟨b, off, e, hb, hc⟩ := h.2 (by omega)
  have hx : l[k]? = some l[k] := List.getElem?_eq_getElem hk
  have g := accsV_get l k _ hx
  exact ⟨b, off, l[k], e, hb, hx, hc (k * 4) _ (g 0 (by omega)), hc (k * 4 + 1) _ (g 1 (by omega)), hc (k * 4 + 2) _ (g 2 (by omega)), hc (k * 4 + 3) _ (g 3 (by omega))⟩
theorem RdT.at_ (h : RdT w B A t) {k : Nat} (hk : k < t.length) :
    ∃ b off q, A = some ⟨b, off, none⟩ ∧ b < B ∧ t[k]? = some q ∧ w.cell? ⟨b, off + k * 2, none⟩ = some (.int .i64 q.1) ∧ w.cell? ⟨b, off + k * 2 + 1, none⟩ = some (.int .i64 q.2) := by
  obtain ⟨b, off, e, hb, hc⟩ := h.2 (by omega)
  have hx : t[k]? = some t[k] := List.getElem?_eq_getElem hk
  have g := beatsV_at t k _ hx
  exact ⟨b, off, t[k], e, hb, hx, hc (k * 2) _ (g 0 (by omega)), hc (k * 2 + 1) _ (g 1 (by omega))⟩
end
noncomputable def accsOf (l : List Cd) (n : Int) (m : List Int) : List Acc := if lockOk l n m then (lockS l n.toNat m).accs else []

def clashI (aw ac bw bc ap bp : Int) (ar br : Bool) : Bool := (ap == bp) && (aw != bw) && (ac == bc) && (ar || br)
def clashA (a b : Acc) : Bool := clashI a.who a.cell b.who b.cell a.ph b.ph a.wr b.wr
def clashAt (l : List Acc) (i k : Nat) : Prop := ∃ a b, l[i]? = some a ∧ l[k]? = some b ∧ clashA a b = true
noncomputable def raceB (l : List Acc) : Bool := @decide (∃ k i, i < k ∧ clashAt l i k) (Classical.propDecidable _)
theorem race_yes {l : List Acc} {i k : Nat} {a b : Acc} (h : i < k) (ha : l[i]? = some a) (hb : l[k]? = some b) (hc : clashA a b = true) : raceB l = true := by
  unfold raceB
  exact @decide_eq_true _ (Classical.propDecidable _) ⟨k, i, h, a, b, ha, hb, hc⟩
theorem race_no {l : List Acc} (h : ∀ k i, k < l.length → i < k → ¬ clashAt l i k) : raceB l = false := by
  unfold raceB
  refine @decide_eq_false _ (Classical.propDecidable _) ?_
  rintro ⟨k, i, hik, hc⟩
  obtain ⟨a, b, ha, hb, hh⟩ := hc
  exact h k i (List.getElem?_eq_some_iff.1 hb).1 hik ⟨a, b, ha, hb, hh⟩

set_option maxRecDepth 100000 in
set_option maxHeartbeats 4000000 in
theorem clash_c (aw ac bw bc ap bp : Int) (ar br : Bool) (w : World) :
    Calls Tryz.prog 106 #[.agg #[.int .i64 aw, .int .i64 ac, .bool ar, .int .i64 ap], .agg #[.int .i64 bw, .int .i64 bc, .bool br, .int .i64 bp]] w fun e w' => e = .returned (.bool (clashI aw ac bw bc ap bp ar br)) ∧ Below w.heap.size w w' := by
  have HC := Lib.hid (show clashI aw ac bw bc ap bp ar br = ((ap == bp) && (aw != bw) && (ac == bc) && (ar || br)) from rfl)
  obtain ⟨x1, h1⟩ : ∃ x, (ap == bp) = x := ⟨_, rfl⟩
  obtain ⟨x2, h2⟩ : ∃ x, (aw != bw) = x := ⟨_, rfl⟩
  obtain ⟨x3, h3⟩ : ∃ x, (ac == bc) = x := ⟨_, rfl⟩
  rw [h1, h2, h3] at HC
  have hbw : Below w.heap.size w ((w.alloc (.cells #[.int .i64 aw, .int .i64 ac, .bool ar, .int .i64 ap] 130)).alloc (.cells #[.int .i64 bw, .int .i64 bc, .bool br, .int .i64 bp] 130)) := (by repeat (first | exact Below.refl _ _ | assumption | refine Below.alloc ?_ (by simp <;> omega) _ | refine Below.setCell ?_ (by simp <;> omega) _ | refine Below.drew ?_))
  cases x1 <;> cases x2 <;> cases x3 <;> cases ar <;> (
    go_enter Tryz.func106, Tryz.ntmps106
    go_wp2
    go_ret
    exact ⟨by rw [HC.out]; rfl, hbw⟩)

theorem RdQ.sub {w : World} {B : Nat} {A : Option Addr} {l : List Acc} (h : RdQ w B A l) {k : Nat} {x : Acc} (hx : l[k]? = some x) {b off : Nat} (e : A = some ⟨b, off, none⟩) : b < B ∧
    w.cell? ⟨b, off + k * 4, none⟩ = some (.int .i64 x.who) ∧ w.cell? ⟨b, off + k * 4 + 1, none⟩ = some (.int .i64 x.cell) ∧
      w.cell? ⟨b, off + k * 4 + 2, none⟩ = some (.bool x.wr) ∧ w.cell? ⟨b, off + k * 4 + 3, none⟩ = some (.int .i64 x.ph) := by
  obtain ⟨b', off', q, e', hb, hq, c0, c1, c2, c3⟩ := h.at_ (List.getElem?_eq_some_iff.1 hx).1
  rw [hx] at hq
  injection hq with hq
  subst hq
  rw [e] at e'
  injection e' with e'
  injection e' with e1 e2
  subst e1 e2
  exact ⟨hb, c0, c1, c2, c3⟩

set_option maxRecDepth 100000 in
set_option maxHeartbeats 4000000 in
theorem firstRace_c (A : Option Addr) (c : Nat) (l : List Acc) (w : World) (hA : RdQ w w.heap.size A l) (hc : l.length ≤ c) (hl : l.length ≤ 1000000000) :
    Calls Tryz.prog 71 #[.slice A l.length c] w fun e w' => ∃ i k : Int, e = .returned (.tuple #[.int .i64 i, .int .i64 k, .bool (raceB l)]) ∧ Below w.heap.size w w' := by
  go_enter Tryz.func71, Tryz.ntmps71
  go_wp2
  go_loopw [11] (fun kv wr => ∃ k : Nat, k ≤ l.length ∧ kv = .int .i64 k ∧ Below w.heap.size w wr ∧ Hid (∀ j i, j < k → i < j → ¬ clashAt l i j)) (fun kv _ => l.length - (intOf kv).toNat)
  case atStart => exact ⟨0, Nat.zero_le _, rfl, Below.refl _ _, Lib.hid (fun j i h => by omega)⟩
  case round =>
    obtain ⟨k, hk, rfl, hb, hno⟩ := hrel
    by_cases hlt : k < l.length
    · obtain ⟨b, off, x, rfl, hbB, hx, c0, c1, c2, c3⟩ := (hA.below hb).at_ hlt
      have hbs := hb.size
      have hkI : (k : Int) < (l.length : Int) := by omega
      have hkc : (k : Int) ≤ (c : Int) := by omega
      have HX := Lib.hid hx
      have hbb : b < wr.heap.size := by omega
      clear hx
      go_wp2
      obtain ⟨wo, how⟩ : ∃ z, z = wr.alloc (.cells #[.int .i64 x.who, .int .i64 x.cell, .bool x.wr, .int .i64 x.ph] 130) := ⟨_, rfl⟩
      have hwob : Below w.heap.size w wo := by rw [how]; exact hb.alloc hbs _
      have hn := heap_alloc_new wr (.cells #[.int .i64 x.who, .int .i64 x.cell, .bool x.wr, .int .i64 x.ph] 130)
      rw [← how] at hn
      have hws : wr.heap.size < wo.heap.size := lt_of_block hn
      rw [← how]
      generalize wr.heap.size = xb at *
      clear c0 c1 c2 c3 how
      clear hb
      obtain ⟨w0, hw0⟩ : ∃ z, z = wo := ⟨wo, rfl⟩
      subst hw0
      go_loopw [20] (fun iv wi => ∃ i : Nat, i ≤ k ∧ iv = .int .i64 i ∧ Below w0.heap.size w0 wi ∧ Hid (∀ j, j < i → ¬ clashAt l j k)) (fun iv _ => k - (intOf iv).toNat)
      case atStart => exact ⟨0, Nat.zero_le _, rfl, Below.refl _ _, Lib.hid (fun j h => by omega)⟩
      case round =>
        obtain ⟨i, hi, rfl, hbi, hni⟩ := hrel
        have hbi2 := below_trans hwob (Nat.le_refl _) hbi
        have d0 : wr.cell? ⟨xb, 0, none⟩ = some (.int .i64 x.who) := cell_kept hbi (cell_of_heap hn 0)
        have d1 : wr.cell? ⟨xb, 1, none⟩ = some (.int .i64 x.cell) := cell_kept hbi (cell_of_heap hn 1)
        have d2 : wr.cell? ⟨xb, 2, none⟩ = some (.bool x.wr) := cell_kept hbi (cell_of_heap hn 2)
        have d3 : wr.cell? ⟨xb, 3, none⟩ = some (.int .i64 x.ph) := cell_kept hbi (cell_of_heap hn 3)
        by_cases hik : i < k
        · have hil : i < l.length := by omega
          have hy : l[i]? = some (l[i]) := List.getElem?_eq_getElem hil
          generalize l[i] = y at hy
          obtain ⟨-, e0, e1, e2, e3⟩ := (hA.below hbi2).sub hy rfl
          have hikI : (i : Int) < (k : Int) := by omega
          have HY := Lib.hid hy
          have HCL := Lib.hid (show clashI y.who y.cell x.who x.cell y.ph x.ph y.wr x.wr = clashA y x from rfl)
          have hbis := hbi2.size
          have hxw : xb < wr.heap.size := by have := hbi.size; omega
          clear hy
          go_wp2_with fail
          refine (clash_c y.who y.cell x.who x.cell y.ph x.ph y.wr x.wr _).mono ?_
          rintro e w5 ⟨rfl, hb5⟩
          rw [HCL.out]
          have hb6 := below_trans (Below.alloc (Below.refl wr.heap.size wr) (Nat.le_refl _) (.cells #[.int .i64 y.who, .int .i64 y.cell, .bool y.wr, .int .i64 y.ph] 130)) (by simp) hb5
          have hb7 := below_trans hbi (Nat.le_refl _) hb6
          cases hcl : clashA y x with
          | true =>
            have HR := Lib.hid (race_yes hik HY.out HX.out hcl)
            clear hcl
            go_wp2
            go_ret3
            rw [HR.out]
            exact ⟨_, _, rfl, below_trans hwob (Nat.le_refl _) hb7⟩
          | false =>
            have HN := Lib.hid (show ∀ j, j < i + 1 → ¬ clashAt l j k from fun j hj => by
              by_cases e : j = i
              · subst e
                rintro ⟨a, b, ha, hb, hh⟩
                rw [HY.out] at ha
                rw [HX.out] at hb
                injection ha with ha
                injection hb with hb
                subst ha hb
                rw [hcl] at hh
                cases hh
              · exact hni.out j (by omega))
            clear hcl
            go_wp2
            go_roundw
            case rel => exact ⟨i + 1, by omega, by go_num, hb7, HN⟩
            case measure => simp [intOf]; omega
        · obtain rfl : i = k := by omega
          go_wp2
          go_roundw
          case rel => exact ⟨i + 1, by omega, by go_num, hbi2, Lib.hid (fun j i' hj hi' => by
            by_cases e : j = i
            · subst e; exact hni.out i' hi'
            · exact hno.out j i' (by omega) hi')⟩
          case measure => simp [intOf]; omega
    · obtain rfl : k = l.length := by omega
      have HR := Lib.hid (race_no (fun k i h1 h2 => hno.out k i h1 h2))
      go_wp2
      go_ret3
      rw [HR.out]
      exact ⟨_, _, rfl, hb⟩

theorem OR.cap4 {w : World} {base e size n c : Nat} {A : Option Addr} {xs : List Value} (h : OR w base e size A n c xs) : n ≤ c := by
  rcases h.2 with ⟨hv, h0⟩ | ⟨g, cap, cur, hv, -, -, h4, -⟩
  · omega
  · injection hv with _ _ h3
    omega

noncomputable def reasonOf (l : List Cd) (n : Int) (m : List Int) : Int := if lockOk l n m then (if splitB l n.toNat (lockS l n.toNat m).beats then 2 else if raceB (accsOf l n m) then 3 else 0) else 1

theorem lockAccs_len {l : List Cd} {n : Int} {m : List Int} (h : lockOk l n m = true) : (lockS l n.toNat m).accs.length ≤ 20480 := by
  have h1 := (run_bd (treeOf l) 0 (2 ^ n.toNat - 1) (LS.start n.toNat m) (Bd.start _ _)).1
  simp only [lockOk, Bool.and_eq_true] at h
  have h2 := trace_len h.1 n.toNat m
  have e : lockS l n.toNat m = (treeOf l).run 0 (2 ^ n.toNat - 1) (LS.start n.toNat m) := rfl
  rw [← e] at h1
  omega

set_option maxRecDepth 100000 in
set_option maxHeartbeats 4000000 in
theorem reason_c (A Am : Option Addr) (ca cm : Nat) (l : List Cd) (n : Int) (m : List Int) (w : World) (hA : RdC w w.heap.size A l) (hM : RdI w w.heap.size Am m) (hl : l.length ≤ 1000000000) (hml : m.length ≤ 1000000000) :
    Calls Tryz.prog 38 #[.slice A l.length ca, .int .i64 n, .slice Am m.length cm] w fun e w' => e = .returned (.int .i64 (reasonOf l n m)) ∧ Below w.heap.size w w' := by
  go_enter Tryz.func38, Tryz.ntmps38
  go_wp2_with fail
  refine (runLock_c A Am ca cm l n m w hA hM hl hml).mono ?_
  rintro e w1 (⟨hok, hr⟩ | ⟨hok, rfl, hb1⟩)
  · obtain ⟨z, T, tc, U, uc, rfl, hzB, hzl, hzn, hS, hb1⟩ := hr
    have hn := hok
    simp only [lockOk, Bool.and_eq_true] at hn
    have hn1 := inR_iff.1 hn.2.1
    have HR := Lib.hid (show reasonOf l n m = (if splitB l n.toNat (lockS l n.toNat m).beats then 2 else if raceB (lockS l n.toNat m).accs then 3 else 0) by simp [reasonOf, accsOf, hok])
    have hlen := trace_len hn.1 n.toNat m
    have hal := lockAccs_len hok
    have hin : ∀ q ∈ (lockS l n.toNat m).beats, q.1 < z.l.length ∧ q.2 < 256 := fun q hq => by rw [hzl]; exact lock_in hok q hq
    have hsp := Lib.hid (split_c hS hin hlen (by rw [hzl]; exact hl) (by omega) (by rw [hzB]; exact hb1.size))
    have HZ := Lib.hid (show splitB z.l z.n (lockS l n.toNat m).beats = splitB l n.toNat (lockS l n.toNat m).beats by rw [hzl, hzn])
    have hs1 : w.heap.size ≤ w1.heap.size := hb1.size
    have HS := Lib.hid hS
    clear hS hok hn hzn hlen hin hzl
    go_wp2_with fail
    refine hsp.out.mono ?_
    rintro e w2 ⟨p, mm, rfl, hb2⟩
    have hbw := below_trans hb1 (Nat.le_refl _) hb2
    have hS2 := HS.out.ext (Ext.of_below hb2) (by rw [hzB]; exact hs1)
    obtain ⟨-, -, -, -, c4, -, -⟩ := hS2.cells
    rw [HZ.out]
    have hX := Ext.alloc w2 (.cells #[.int .i64 p, .int .i64 mm] 78)
    have c4' := hX.cell c4
    have hQ : RdQ w2 w2.heap.size U (lockS l n.toNat m).accs := OR.reads hS2.acc
    have hcap := OR.cap4 hS2.acc
    have HQ := Lib.hid ((hQ.below hX.below).more hX.size)
    have hbX : Below w.heap.size w (w2.alloc (.cells #[.int .i64 p, .int .i64 mm] 78)) := hbw.alloc hbw.size _
    clear hS2 c4 hQ HS hsp HZ
    generalize (lockS l n.toNat m).accs = qs at *
    generalize splitB l n.toNat (lockS l n.toNat m).beats = sb at *
    cases sb with
    | true =>
      go_wp2
      go_ret
      exact ⟨by rw [HR.out]; rfl, hbX⟩
    | false =>
      go_wp2_with fail
      refine (firstRace_c U uc qs _ HQ.out hcap (by omega)).mono ?_
      rintro e w3 ⟨i, k, rfl, hb3⟩
      have hb4 := below_trans hbX (by simp) hb3
      generalize raceB qs = rb at *
      cases rb with
      | true =>
        go_wp2
        go_ret
        exact ⟨by rw [HR.out]; rfl, hb4⟩
      | false =>
        go_wp2
        go_ret
        exact ⟨by rw [HR.out]; rfl, hb4⟩
  · have HR := Lib.hid (show reasonOf l n m = 1 by simp [reasonOf, hok])
    clear hok
    go_wp2
    go_ret
    exact ⟨reti (by rw [HR.out]), hb1⟩

theorem isSafe_c (A Am : Option Addr) (ca cm : Nat) (l : List Cd) (n : Int) (m : List Int) (w : World) (hA : RdC w w.heap.size A l) (hM : RdI w w.heap.size Am m) (hl : l.length ≤ 1000000000) (hml : m.length ≤ 1000000000) :
    Calls Tryz.prog 10 #[.slice A l.length ca, .int .i64 n, .slice Am m.length cm] w fun e w' => e = .returned (.bool (reasonOf l n m == 0)) ∧ Below w.heap.size w w' := by
  go_enter Tryz.func10, Tryz.ntmps10
  go_wp2_with fail
  refine (reason_c A Am ca cm l n m w hA hM hl hml).mono ?_
  rintro e w1 ⟨rfl, b1⟩
  go_wp2
  go_ret
  exact ⟨rfl, b1⟩

end Go.Proofs.YtelbfeidpcojmaaGreat
