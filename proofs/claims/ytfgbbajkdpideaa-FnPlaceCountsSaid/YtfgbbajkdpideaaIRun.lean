/- The program's RunLock: split, the memory and whether no barrier is split. -/
import Derived.Test.YtfgbbajkdpideaaILock7
import Derived.Test.YtfgbbajkdpideaaILock1
import Derived.Test.YtfgbbajkdpideaaMem2
import Derived.StillTailTactics
namespace Go.Proofs.Ytfgbbajkdpideaa
open Go.RowKit
set_option linter.unusedVariables false
set_option linter.unusedSimpArgs false

section
variable {P : Program} {a : Act} {w : World}
/-- A function's end with two results, the first a struct. -/
theorem ret_cell2 {fn : Func} {R : Ending → World → Prop} {t t2 : Tmp} {ty : TypeId} (h : fn.results = #[.cell t ty, .tmp t2]) (b : Nat) (ht : a.tmps.getD t undef = .pointer (some ⟨b, 0, none⟩)) (v : Value) (hv : a.tmps.getD t2 undef = v) (cs : Array Value) (tt : TypeId) (fr : Nat × Nat)
    (hh : w.heap[b]? = some (.cells cs tt fr)) (d : TypeDesc) (hu : P.underlying ty = some d) (hd : (match d with | .struct _ | .array _ _ => true | _ => false) = true) (hi : (P.info? ty).map (·.size) = some cs.size)
    (hf : a.defers = []) (hR : R (.returned (.tuple #[.agg cs, v])) w) : bodyPost P fn R .ret a w := by
  have hrun := run_loadVar_row (P := P) w b tt ty cs fr d hh hu hd hi
  refine bodyPost_ret ?_ hf hR
  have ht2 : a.tmps[t]?.getD undef = .pointer (some ⟨b, 0, none⟩) := by simpa using ht
  have hv2 : a.tmps[t2]?.getD undef = v := by simpa using hv
  simp [results, h, ht2, hv2, asAddr, hrun, Result.andThen]
end

/-- What is read of a run when its barriers are looked at. -/
structure SpR (w : World) (z : IW) (bs : List (Nat × Nat)) (T : Option Addr) (tc : Nat) (b : Nat) : Prop where
  c0 : w.cell? ⟨z.g, 0, none⟩ = some (.pointer (some ⟨z.mg, 0, none⟩))
  c1 : w.cell? ⟨z.g, 1, none⟩ = some (.slice (some ⟨z.rg, 0, none⟩) z.n z.rc)
  c3 : w.cell? ⟨z.g, 3, none⟩ = some (.slice T bs.length tc)
  d0 : w.cell? ⟨z.mg, 0, none⟩ = some (.slice z.A z.l.length z.ca)
  bx : w.cell? ⟨b, 0, none⟩ = some (.pointer (some ⟨z.g, 0, none⟩))
  lst : RdC w w.heap.size z.A z.l
  trc : Reads w w.heap.size 2 T bs.length (beatsV bs)

set_option maxRecDepth 100000 in
set_option maxHeartbeats 4000000 in
theorem splitF_c {w : World} {z : IW} {bs : List (Nat × Nat)} {T : Option Addr} {tc b : Nat} (h : SpR w z bs T tc b) {p m : Nat} (hp : p < z.l.length) (hm : m < 256) (hl : z.l.length ≤ 1000000000) (hn : 1 ≤ z.n ∧ z.n ≤ 8) :
    Calls Try.prog 48 #[.agg #[.int .i64 p, .int .i64 m], .pointer (some ⟨b, 0, none⟩)] w fun e w' => e = .returned (.bool (opAt z.l p == 10 && !(m == 2 ^ z.n - 1))) ∧ Below w.heap.size w w' := by
  obtain ⟨lb, lo, y, hzA, hbB, hy, l0, -, -, -⟩ := h.lst.at_ hp
  have d0 := h.d0
  have c0 := h.c0
  have c1 := h.c1
  have bx := h.bx
  rw [hzA] at d0
  have hop : opAt z.l p = y.op := opAt_get hy
  have HALL := Lib.hid (show maskAllI (z.n : Int) = ((2 ^ z.n - 1 : Nat) : Int) by
    have : z.n = 1 ∨ z.n = 2 ∨ z.n = 3 ∨ z.n = 4 ∨ z.n = 5 ∨ z.n = 6 ∨ z.n = 7 ∨ z.n = 8 := by omega
    rcases this with h | h | h | h | h | h | h | h <;> rw [h] <;> decide)
  have hpI : (p : Int) < (z.l.length : Int) := by omega
  rw [hop]
  have hbg := World.block_lt_of_cell? w _ c0
  have hbm := World.block_lt_of_cell? w _ d0
  have hbb := World.block_lt_of_cell? w _ bx
  have hbl := World.block_lt_of_cell? w _ l0
  have hX := Ext.alloc w (.cells #[.int .i64 p, .int .i64 m] 56)
  have hN := heap_alloc_new w (.cells #[.int .i64 p, .int .i64 m] 56)
  have n0 := cell_of_heap hN 0
  have n1 := cell_of_heap hN 1
  have hB0 := hX.below
  clear hop hy h
  cases ho : (y.op == 10) with
  | false =>
    go_enter Try.func48, Try.ntmps48
    go_wp2_with fail
    replace l0 := hX.cell l0
    replace d0 := hX.cell d0
    replace c0 := hX.cell c0
    replace c1 := hX.cell c1
    replace bx := hX.cell bx
    clear hX hN
    generalize w.alloc (.cells #[.int .i64 p, .int .i64 m] 56) = W at *
    go_quiet (fail)
    go_wp2
    go_ret
    exact ⟨rfl, hB0.trans ⟨rfl, rfl, rfl, Nat.le_refl _, fun _ _ => rfl⟩⟩
  | true =>
    go_enter Try.func48, Try.ntmps48
    go_wp2_with fail
    replace l0 := hX.cell l0
    replace d0 := hX.cell d0
    replace c0 := hX.cell c0
    replace c1 := hX.cell c1
    replace bx := hX.cell bx
    clear hX hN
    generalize w.alloc (.cells #[.int .i64 p, .int .i64 m] 56) = W at *
    have HM := Lib.hid (fun W => by have := iMaskAll_c z.n W; rw [HALL.out] at this; exact this)
    go_still_tail 24, (by kernel_rfl)
    still_call (calls_flip (HM.out _))
    repeat still_step
    try refine wpStill_nil ?_
    go_wp2
    go_ret
    refine ⟨retb ?_, hB0.trans ⟨rfl, rfl, rfl, Nat.le_refl _, fun _ _ => rfl⟩⟩
    have e : ((m : Int) == ((2 ^ z.n - 1 : Nat) : Int)) = (m == 2 ^ z.n - 1) := by
      rw [Bool.eq_iff_iff]
      simp only [beq_iff_eq]
      exact Int.natCast_inj
    rw [Bool.true_and, bne, e]

theorem splitB_take {l : List Cd} {n k : Nat} {bs : List (Nat × Nat)} {q : Nat × Nat} (hq : bs[k]? = some q) (h : splitB l n (bs.take k) = false) : splitB l n (bs.take (k + 1)) = (opAt l q.1 == 10 && !(q.2 == 2 ^ n - 1)) := by
  obtain ⟨hk, rfl⟩ := List.getElem?_eq_some_iff.1 hq
  rw [List.take_succ_eq_append_getElem hk]
  have := splitB_snoc l n (bs.take k) bs[k].1 bs[k].2
  rw [h, Bool.false_or] at this
  exact this
theorem splitB_hit {l : List Cd} {n k : Nat} {bs : List (Nat × Nat)} {q : Nat × Nat} (hq : bs[k]? = some q) (h : (opAt l q.1 == 10 && !(q.2 == 2 ^ n - 1)) = true) : splitB l n bs = true :=
  List.any_eq_true.2 ⟨q, List.mem_of_getElem? hq, h⟩
theorem SpR.below {w w' : World} {z : IW} {bs : List (Nat × Nat)} {T : Option Addr} {tc b : Nat} (h : SpR w z bs T tc b) (hb : Below w.heap.size w w') : SpR w' z bs T tc b :=
  ⟨cell_kept hb h.c0, cell_kept hb h.c1, cell_kept hb h.c3, cell_kept hb h.d0, cell_kept hb h.bx, (h.lst.below hb).more hb.size, (h.trc.below hb).more hb.size⟩

set_option maxRecDepth 100000 in
set_option maxHeartbeats 4000000 in
theorem splitI_c {w : World} {z : IW} {bs : List (Nat × Nat)} {T : Option Addr} {tc b : Nat} (h : SpR w z bs T tc b) (hin : ∀ q ∈ bs, q.1 < z.l.length ∧ q.2 < 256) (hlen : bs.length ≤ 2560) (hl : z.l.length ≤ 1000000000) (hn : 1 ≤ z.n ∧ z.n ≤ 8) :
    Calls Try.prog 47 #[.slice T bs.length tc, .func (Fn.func 48) #[] #[.pointer (some ⟨b, 0, none⟩)]] w fun e w' => ∃ i : Int, e = .returned (.int .i64 i) ∧ decide (0 ≤ i) = splitB z.l z.n bs ∧ (0 ≤ i → i < bs.length) ∧ Below w.heap.size w w' := by
  have HIN := Lib.hid hin
  clear hin
  go_enter Try.func47, Try.ntmps47
  go_wp2
  go_loopw [8] (fun kv wr => ∃ k : Nat, k ≤ bs.length ∧ kv = .int .i64 k ∧ Hid (splitB z.l z.n (bs.take k) = false) ∧ Below w.heap.size w wr) (fun kv _ => bs.length - (intOf kv).toNat)
  case atStart => exact ⟨0, Nat.zero_le _, rfl, Lib.hid rfl, Below.refl _ _⟩
  case round =>
    obtain ⟨k, hk, rfl, HN, hb⟩ := hrel
    by_cases hlt : k < bs.length
    · have hq : bs[k]? = some (bs[k]) := List.getElem?_eq_getElem hlt
      generalize bs[k] = q at hq
      obtain ⟨p, mm⟩ := q
      obtain ⟨hpl, hmm⟩ := HIN.out _ (List.mem_of_getElem? hq)
      have h' := h.below hb
      have HH := Lib.hid h'
      obtain ⟨g, off, rfl, hg2, hc⟩ := h'.trc.2 (by omega)
      have hcells := beatsV_get bs k _ hq
      have e0 := hc _ _ hcells.1
      have e1 := hc _ _ hcells.2
      rw [← Nat.add_assoc] at e1
      have hkI : (k : Int) < (bs.length : Int) := by omega
      have HQ := Lib.hid hq
      clear hq hcells h' hc hg2 h
      go_wp2_with fail
      refine (splitF_c HH.out hpl hmm hl hn).mono ?_
      rintro e w1 ⟨rfl, hb1⟩
      have hb2 := below_trans hb (Nat.le_refl _) hb1
      cases hs : (opAt z.l p == 10 && !(mm == 2 ^ z.n - 1)) with
      | true =>
        have HS := Lib.hid (splitB_hit HQ.out hs)
        go_wp2
        go_ret
        exact ⟨k, rfl, by rw [HS.out]; simp, fun _ => hkI, hb2⟩
      | false =>
        have HS := Lib.hid (show splitB z.l z.n (bs.take (k + 1)) = false by rw [splitB_take HQ.out HN.out]; exact hs)
        go_wp2
        go_roundw
        case rel => exact ⟨k + 1, by omega, by go_num, HS, hb2⟩
        case measure => simp [intOf]; omega
    · obtain rfl : k = bs.length := by omega
      have HN2 := Lib.hid (show splitB z.l z.n bs = false by have := HN.out; rwa [List.take_length] at this)
      go_wp2
      go_ret
      exact ⟨-1, rfl, by rw [HN2.out]; simp, fun h => by omega, hb⟩

set_option maxRecDepth 100000 in
set_option maxHeartbeats 4000000 in
theorem split_c {w : World} {z : IW} {T U : Option Addr} {tc uc : Nat} {s : LS} (h : IR w z T tc U uc s) (hin : ∀ q ∈ s.beats, q.1 < z.l.length ∧ q.2 < 256) (hlen : s.beats.length ≤ 2560) (hl : z.l.length ≤ 1000000000) (hn : 1 ≤ z.n ∧ z.n ≤ 8) (hB : z.B ≤ w.heap.size) :
    Calls Try.prog 27 #[.pointer (some ⟨z.g, 0, none⟩)] w fun e w' => ∃ p m : Int, e = .returned (.tuple #[.agg #[.int .i64 p, .int .i64 m], .bool (splitB z.l z.n s.beats)]) ∧ Below w.heap.size w w' := by
  obtain ⟨c0, c1, -, c3, -, -, -⟩ := h.cells
  obtain ⟨d0, -⟩ := h.mach.cells
  have hX1 := Ext.alloc w (.cells #[.pointer (some ⟨z.g, 0, none⟩)] 52)
  have hX2 := Ext.alloc (w.alloc (.cells #[.pointer (some ⟨z.g, 0, none⟩)] 52)) (.cells #[.int .i64 0, .int .i64 0] 56)
  have hX := hX1.trans hX2
  have hN1 := hX2.heap_ (heap_alloc_new w (.cells #[.pointer (some ⟨z.g, 0, none⟩)] 52))
  have hN2 := heap_alloc_new (w.alloc (.cells #[.pointer (some ⟨z.g, 0, none⟩)] 52)) (.cells #[.int .i64 0, .int .i64 0] 56)
  have hsz : (w.alloc (.cells #[.pointer (some ⟨z.g, 0, none⟩)] 52)).heap.size = w.heap.size + 1 := by simp
  rw [hsz] at hN2
  have hsr : SpR ((w.alloc (.cells #[.pointer (some ⟨z.g, 0, none⟩)] 52)).alloc (.cells #[.int .i64 0, .int .i64 0] 56)) z s.beats T tc w.heap.size :=
    ⟨hX.cell c0, hX.cell c1, hX.cell c3, hX.cell d0, cell_of_heap hN1 0, (h.mach.lst.below (hX.below.mono hB)).more (by have := hX.size; omega), (h.trc.ext hX).reads⟩
  have hsz2 := hX.size
  have hszz : ((w.alloc (.cells #[.pointer (some ⟨z.g, 0, none⟩)] 52)).alloc (.cells #[.int .i64 0, .int .i64 0] 56)).heap.size = w.heap.size + 2 := by simp
  have hbl := hX.below
  have HIN := Lib.hid hin
  generalize s.beats = bs at *
  clear h hin hX1 hX2
  have hmf : ∀ (fn : Fn) (first cap : Array Value) (w : World), (Instr.makeFunc fn first cap).run Try.prog w = .ok (.func fn first cap) w := fun _ _ _ _ => rfl
  have k0 := hsr.c0
  have k3 := hsr.c3
  have kb := hsr.bx
  have kn0 := cell_of_heap hN2 0
  have kn1 := cell_of_heap hN2 1
  have kf0 := free_of_heap hN2 0
  have kf1 := free_of_heap hN2 1
  clear c0 c1 c3 d0
  go_enter Try.func27, Try.ntmps27
  go_wp2_with fail
  refine (splitI_c hsr HIN.out hlen hl hn).mono ?_
  rintro e w3 ⟨i, rfl, hi, hi2, hb3⟩
  have hbw := below_trans hbl (Nat.le_refl _) hb3
  have hN3 := (hb3.block (w.heap.size + 1) (by omega)).trans hN2
  have x0 : w3.cell? ⟨w.heap.size + 1, 0, none⟩ = some (.int .i64 0) := cell_of_heap hN3 0
  have x1 : w3.cell? ⟨w.heap.size + 1, 1, none⟩ = some (.int .i64 0) := cell_of_heap hN3 1
  have f0 := free_of_heap hN3 0
  have f1 := free_of_heap hN3 1
  have q0 := cell_kept hb3 k0
  have q3 := cell_kept hb3 k3
  have qb := cell_kept hb3 kb
  have hsz3 := hb3.size
  have HR := Lib.hid (hsr.trc.below hb3)
  have HB := Lib.hid hbw
  clear k0 k3 kb kn0 kn1 kf0 kf1 hsr hbl hN1 hN2
  cases hs : splitB z.l z.n bs with
  | false =>
    rw [hs] at hi
    have hi3 : decide (i < 0) = true := decide_eq_true (by have := of_decide_eq_false hi; omega)
    clear hi hi2
    have hz1 := heap_set_same hN3 0 (.int .i64 0)
    have hz2 := heap_set_same hz1 1 (.int .i64 0)
    go_wp2_with fail
    refine ret_cell2 Try.results27 _ rfl _ rfl _ _ _ hz2 _ (Try.underlying56) rfl (by kernel_rfl) rfl ?_
    exact ⟨0, 0, by rw [hs]; rfl, (HB.out.setCell (p := ⟨w.heap.size + 1, 0, none⟩) (by simp) _).setCell (p := ⟨w.heap.size + 1, 1, none⟩) (by simp) _⟩
  | true =>
    rw [hs] at hi
    have hi3 : decide (i < 0) = false := decide_eq_false (by have := of_decide_eq_true hi; omega)
    obtain ⟨k, rfl⟩ : ∃ k : Nat, i = (k : Int) := ⟨i.toNat, by have := of_decide_eq_true hi; omega⟩
    have hk : k < bs.length := by have := hi2 (by omega); omega
    have hkI := hi2 (by omega)
    have hq : bs[k]? = some (bs[k]) := List.getElem?_eq_getElem hk
    generalize bs[k] = q at hq
    obtain ⟨g, off, rfl, hg2, hc⟩ := HR.out.2 (by omega)
    have hcells := beatsV_get bs k _ hq
    have e0 := hc _ _ hcells.1
    have e1 := hc _ _ hcells.2
    rw [← Nat.add_assoc] at e1
    have hz1 := heap_set_same hN3 0 (.int .i64 q.1)
    have hz2 := heap_set_same hz1 1 (.int .i64 q.2)
    clear hi hi2 hq hcells hc hg2
    go_wp2_with fail
    refine ret_cell2 Try.results27 _ rfl _ rfl _ _ _ hz2 _ (Try.underlying56) rfl (by kernel_rfl) rfl ?_
    exact ⟨q.1, q.2, by rw [hs]; rfl, (HB.out.setCell (p := ⟨w.heap.size + 1, 0, none⟩) (by simp) _).setCell (p := ⟨w.heap.size + 1, 1, none⟩) (by simp) _⟩

theorem lock_in {l : List Cd} {n : Int} {m : List Int} (h : lockOk l n m = true) : ∀ q ∈ (lockS l n.toNat m).beats, q.1 < l.length ∧ q.2 < 256 := by
  intro q hq
  have h' := h
  simp only [lockOk, Bool.and_eq_true] at h'
  have hn := inR_iff.1 h'.2.1
  have := trace_in (l := l) (n := n) (m := m) q (by unfold traceOf; rw [if_pos h]; exact hq)
  have h8 : 2 ^ n.toNat ≤ 2 ^ 8 := Nat.pow_le_pow_right (by decide) (by omega)
  exact ⟨this.1, by have := this.2.2; omega⟩

/-- What RunLock returns. -/
noncomputable def runOf (l : List Cd) (n : Int) (mem : List Int) : List Int := if lockOk l n mem then (lockS l n.toNat mem).mem else []
noncomputable def wholeOf (l : List Cd) (n : Int) (mem : List Int) : Bool := lockOk l n mem && !splitB l n.toNat (lockS l n.toNat mem).beats

set_option maxRecDepth 100000 in
set_option maxHeartbeats 4000000 in
theorem iRunLock_c (A Am : Option Addr) (ca cm : Nat) (l : List Cd) (n : Int) (mem : List Int) (w : World) (hA : RdC w w.heap.size A l) (hM : RdI w w.heap.size Am mem) (hl : l.length ≤ 1000000000) (hml : mem.length ≤ 1000000000) :
    Calls Try.prog 9 #[.slice A l.length ca, .int .i64 n, .slice Am mem.length cm] w fun e w' => ∃ (M : Option Addr) (c : Nat), e = .returned (.tuple #[.slice M (runOf l n mem).length c, .bool (wholeOf l n mem)]) ∧ RdI w' w'.heap.size M (runOf l n mem) ∧ Below w.heap.size w w' := by
  go_enter Try.func9, Try.ntmps9
  go_wp2_with fail
  refine (runLock_c A Am ca cm l n mem w hA hM hl hml).mono ?_
  rintro e w1 (⟨hok, hr⟩ | ⟨hok, rfl, hb1⟩)
  · obtain ⟨z, T, tc, U, uc, rfl, hzB, hzl, hzn, hS, hb1⟩ := hr
    have hn := hok
    simp only [lockOk, Bool.and_eq_true] at hn
    have hn1 := inR_iff.1 hn.2.1
    have hr1 : runOf l n mem = (lockS l n.toNat mem).mem := by simp [runOf, hok]
    have hw1 : wholeOf l n mem = !splitB l n.toNat (lockS l n.toNat mem).beats := by simp [wholeOf, hok]
    have hlen := trace_len hn.1 n.toNat mem
    have hin : ∀ q ∈ (lockS l n.toNat mem).beats, q.1 < z.l.length ∧ q.2 < 256 := fun q hq => by rw [hzl]; exact lock_in hok q hq
    have hsp := Lib.hid (split_c hS hin hlen (by rw [hzl]; exact hl) (by omega) (by rw [hzB]; exact hb1.size))
    have hs1 : w.heap.size ≤ w1.heap.size := hb1.size
    have HW := Lib.hid hw1
    have HZ := Lib.hid (show splitB z.l z.n (lockS l n.toNat mem).beats = splitB l n.toNat (lockS l n.toNat mem).beats by rw [hzl, hzn])
    have HR1 := Lib.hid hr1
    have HS := Lib.hid hS
    clear hS hok hn hzn hlen hin hr1 hw1 hzl
    go_wp2_with fail
    refine hsp.out.mono ?_
    rintro e w2 ⟨p, m, rfl, hb2⟩
    have hbw := below_trans hb1 (Nat.le_refl _) hb2
    have hS2 := HS.out.ext (Ext.of_below hb2) (by rw [hzB]; exact hs1)
    obtain ⟨-, -, c2, -, -, -, -⟩ := hS2.cells
    have HM := Lib.hid (OR.reads hS2.mem)
    rw [HZ.out] 
    have hX := Ext.alloc w2 (.cells #[.int .i64 p, .int .i64 m] 56)
    have c3 := hX.cell c2
    have HM2 := Lib.hid ((HM.out.below hX.below).more hX.size)
    have hbX : Below w.heap.size w (w2.alloc (.cells #[.int .i64 p, .int .i64 m] 56)) := hbw.alloc hbw.size _
    clear hS2 c2
    go_wp2
    go_ret2
    rw [HR1.out, HW.out]
    exact ⟨_, _, rfl, HM2.out, hbX⟩
  · have hr1 : runOf l n mem = [] := by simp [runOf, hok]
    have hw1 : wholeOf l n mem = false := by simp [wholeOf, hok]
    have HR1 := Lib.hid hr1
    have HW := Lib.hid hw1
    clear hr1 hw1 hok
    go_wp2
    go_ret2
    rw [HR1.out, HW.out]
    exact ⟨none, 0, rfl, Reads.none_, hb1⟩
theorem lockS_len {l : List Cd} {n : Int} {mem : List Int} (h : lockOk l n mem = true) : SOk n.toNat (lockS l n.toNat mem) := by
  simp only [lockOk, Bool.and_eq_true] at h
  obtain ⟨hp, hn, hm⟩ := h
  have hn' := inR_iff.1 hn
  obtain ⟨h0, h1, h2⟩ := memOk_iff.1 hm
  obtain ⟨k1, -⟩ := treeOf_spec hp
  have hmm : 2 ^ n.toNat - 1 < 2 ^ n.toNat := by have : 0 < 2 ^ n.toNat := Nat.pow_pos (by decide); omega
  exact run_ok _ 3 0 _ _ k1 hmm (SOk.start' (by omega) h0 h1 h2)
theorem runOf_len (l : List Cd) (n : Int) (mem : List Int) : (runOf l n mem).length ≤ 32 := by
  unfold runOf
  split
  · rename_i h
    exact (lockS_len h).mem2
  · simp
end Go.Proofs.Ytfgbbajkdpideaa
