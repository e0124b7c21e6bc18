/- The program's run in lockstep: steps. -/
import Derived.Test.YtcpjhlkcfohkiaaILock1
import Derived.Test.YtcpjhlkcfohkiaaILock2
import Derived.Deep.Cut
import Derived.StillTailTactics
import Derived.IntWalk
import Derived.Deep.RegionHeld3
import Derived.Deep.RegionLaw
import Derived.Deep.AppendLies
namespace Go.Proofs.Ytcpjhlkcfohkiaa
open Go.RowKit
set_option linter.unusedVariables false
set_option linter.unusedSimpArgs false

def onesF (a : Int) (s : LS) (out k : Nat) : Nat := if s.reg k a == 0 then out else out ||| 2 ^ k
theorem onesF_of (m : Nat) (a : Int) (s : LS) : onesOf m a s = foldTo (onesF a s) m 0 (lanesOf m).length := (foldTo_all (onesF a s) m 0).symm
theorem onesF_lt (a : Int) (s : LS) (m : Nat) : ∀ j, foldTo (onesF a s) m 0 j < 256
  | 0 => by simp [foldTo]
  | j + 1 => by
    have ih := onesF_lt a s m j
    cases h : (lanesOf m)[j]? with
    | none =>
      have : (lanesOf m).length ≤ j := List.getElem?_eq_none_iff.1 h
      unfold foldTo at *
      rw [List.take_of_length_le (by omega)] at *
      exact ih
    | some k =>
      rw [foldTo_succ _ _ h]
      have hk := (lanesOf_mem.1 (List.mem_of_getElem? h)).1
      unfold onesF
      rw [show foldTo (fun out k => if (s.reg k a == 0) = true then out else out ||| 2 ^ k) m 0 j = foldTo (onesF a s) m 0 j from rfl]
      split
      · exact ih
      · exact Nat.or_lt_two_pow (n := 8) (by omega) (Nat.pow_lt_pow_right (by decide) hk)

set_option maxRecDepth 100000 in
theorem run_equalIn_func_nil {P : Program} (w : World) (d : Nat) (t : TypeId) {p r : Array TypeId} {v : Bool} (h : P.underlying t = some (.func p r v)) : (Op.equalIn (d + 1) t .nilFunc .nilFunc).run P w = .ok true w := by
  simp [Op.equalIn, run_underlying h]
set_option maxRecDepth 100000 in
theorem run_neq_func_nil {P : Program} (w : World) (t : TypeId) {p r : Array TypeId} {v : Bool} (h : P.underlying t = some (.func p r v)) : (binOp .neq t .nilFunc .nilFunc).run P w = .ok (.bool false) w := by
  simp only [binOp]
  simp [Op.equal, Op.maxDepth, run_equalIn_func_nil w 9999 t h]

def ActRel (w : World) (m : Nat) (a : Int) (s : LS) (ov jv : Value) (wr : World) : Prop :=
  ∃ j : Nat, j ≤ (lanesOf m).length ∧ jv = .int .i64 j ∧ ov = .int .i64 ((foldTo (onesF a s) m 0 j : Nat) : Int) ∧ Below w.heap.size w wr

set_option maxRecDepth 100000 in
set_option maxHeartbeats 2000000 in
theorem active_c {w : World} {z : IW} {T U : Option Addr} {tc uc : Nat} {s : LS} (h : IR w z T tc U uc s) (hok : SOk z.n s) (m : Nat) (hm : m < 2 ^ z.n) (a : Int) (ha : 0 ≤ a ∧ a ≤ 3) :
    Calls Try.prog 129 #[.pointer (some ⟨z.g, 0, none⟩), .int .i64 m, .int .i64 a] w fun e w' => e = .returned (.int .i64 (onesOf m a s)) ∧ Below w.heap.size w w' := by
  obtain ⟨a, rfl⟩ := Int.eq_ofNat_of_zero_le ha.1
  have a3 : a ≤ 3 := by omega
  have n8 := hok.n8
  have m256 : m < 2 ^ 8 := Nat.lt_of_lt_of_le hm (Nat.pow_le_pow_right (by decide) n8)
  have m256' : m < 256 := by omega
  have HL := Lib.hid (fun k => lanesOf_lt (k := k) hm)
  have h8 := lanesOf_len m
  clear hm m256
  go_enter Try.func129, Try.ntmps129
  go_wp2_with fail
  refine (lanesOf_c m w (by omega)).mono ?_
  rintro e w1 ⟨A, c, rfl, hO, hb1⟩
  have hI := h.ext (Ext.of_below hb1) (by have := h.gB; have := h.glt; omega)
  replace hO := hO.reads
  clear h
  go_wp2
  go_loopw [7, 13] (fun ov jv wr => ActRel w1 m a s ov jv wr) (fun _ jv _ => (lanesOf m).length - (intOf jv).toNat)
  case atStart => exact ⟨0, Nat.zero_le _, rfl, rfl, Below.refl _ _⟩
  case round =>
    obtain ⟨j, hj, rfl, rfl, hb⟩ := hrel
    by_cases hlt : j < (lanesOf m).length
    · have hk : (lanesOf m)[j]? = some ((lanesOf m)[j]) := List.getElem?_eq_getElem hlt
      generalize (lanesOf m)[j] = k at hk
      have hkn : k < z.n := HL.out k (List.mem_of_getElem? hk)
      obtain ⟨b, off, rfl, hbB, hc⟩ := hO.2 (by omega)
      have g1 := cell_kept hb (hc j (.int .i64 k) (by rw [List.getElem?_map, lanesI_get hk]; rfl))
      have hI2 := hI.ext (Ext.of_below hb) (by have := hI.gB; have := hI.glt; omega)
      obtain ⟨c0, c1, -, -, -, -, -⟩ := hI2.cells
      have hrow := hI2.rowAt hkn
      have hr4 := hok.get hkn
      have hreg := (OI.at0 (hI2.inn k hkn)).1 a _ (rg_get hr4.1 a3)
      have HT := Lib.hid (foldTo_succ (onesF (a : Int) s) 0 hk)
      have hu := onesF_lt (a : Int) s m j
      have HV : s.reg k (a : Int) = rg (s.regs.getD k []) (a : Int) := rfl
      have hk7 : k ≤ 7 := by omega
      have hjI : (j : Int) < ((lanesOf m).length : Int) := by omega
      have hkI : (k : Int) < (z.n : Int) := by omega
      have hpw : 2 ^ k ≤ 2 ^ 7 := Nat.pow_le_pow_right (by decide) (by omega)
      generalize foldTo (onesF (a : Int) s) m 0 j = u at *
      generalize rg (s.regs.getD k []) (a : Int) = v at hreg HV
      clear hk hc hr4 c0 hI2
      cases hz : v == 0 with
      | true =>
        have hn : (v != 0) = false := by simp [bne, hz]
        have HZ := Lib.hid (show foldTo (onesF (a : Int) s) m 0 (j + 1) = u by rw [HT.out]; simp only [onesF, HV, hz, if_true])
        clear hz HV HT
        go_wp2
        go_roundw
        case rel => exact ⟨j + 1, by omega, by go_num, by rw [HZ.out], hb⟩
        case measure => simp [intOf]; omega
      | false =>
        have hn : (v != 0) = true := by simp [bne, hz]
        have HZ := Lib.hid (show foldTo (onesF (a : Int) s) m 0 (j + 1) = u ||| 2 ^ k by rw [HT.out]; simp only [onesF, HV, hz]; rfl)
        clear hz HV HT
        go_wp2
        go_roundw
        case rel => exact ⟨j + 1, by omega, by go_num, by rw [HZ.out, or_bit _ _ (by omega) (by omega)], hb⟩
        case measure => simp [intOf]; omega
    · obtain rfl : j = (lanesOf m).length := by omega
      go_wp2
      go_ret
      exact ⟨reti (by rw [onesF_of]), below_trans hb1 (Nat.le_refl _) hb⟩

set_option maxRecDepth 100000 in
set_option maxHeartbeats 2000000 in
theorem beat_c {w : World} {z : IW} {T U : Option Addr} {tc uc : Nat} {s : LS} (h : IR w z T tc U uc s) (p m : Nat) (hp : p ≤ 1000000) (hm : m < 256) (hl : s.beats.length ≤ 1000000000) (hB : z.B ≤ w.heap.size) :
    Calls Try.prog 128 #[.pointer (some ⟨z.g, 0, none⟩), .int .i64 p, .int .i64 m] w fun e w' => e = .returned (.tuple #[]) ∧ ∃ T' tc', IR w' z T' tc' U uc (beat p m s) ∧ StI z.B w w' := by
  obtain ⟨c0, c1, c2, c3, c4, c5, c6⟩ := h.cells
  have HT := Lib.hid (h.trc.alloc (.cells #[.int .i64 p, .int .i64 m] 90))
  have H := Lib.hid h
  have hgl := h.glt
  clear h c0 c1 c2 c4 c5
  go_enter Try.func128, Try.ntmps128
  go_wp2_with (at_builtin; refine app_row 94 90 _ 2 16 Try.underlying94 infoBeat rfl (by decide) (by decide) rfl _ _ rfl z.B T s.beats.length tc _ HT.out rfl w.heap.size 1 1 [.int .i64 p, .int .i64 m] rfl rfl ?hc ?h1 ?hn ?hb ?_)
  case hc =>
    intro j u hu
    match j, hu with
    | 0, hu => simp at hu; subst hu; simp [go_sem]
    | 1, hu => simp at hu; subst hu; simp [go_sem]
  case h1 => intro u hu; simp at hu; rcases hu with rfl | rfl <;> rfl
  case hn => omega
  case hb => simp; omega
  intro T2 tc2 w2 ho2 hg2
  have hX := Ext.alloc w (.cells #[.int .i64 p, .int .i64 m] 90)
  obtain ⟨hR, hst⟩ := H.out.beat_ hX hB hg2 ho2
  have e1 := H.out.ext hX hB
  have hblk : w2.heap[z.g]? = some (.cells (z.row s T tc U uc) 98 (0, 0)) := (hg2.block _ e1.glt (fun e => e1.t_g e.symm)).trans e1.blk
  have q3 : w2.cell? ⟨z.g, 3, none⟩ = some (.slice T s.beats.length tc) := cell_of_heap hblk 3
  have q6 : w2.cell? ⟨z.g, 6, none⟩ = some .nilFunc := cell_of_heap hblk 6
  have f3 := free_of_heap hblk 3
  have HR := Lib.hid hR
  clear hR hX e1 hblk c3 c6
  have k1 := fun w' : World => run_neq_func_nil (P := Try.prog) w' 96 Try.underlying96
  go_wp2
  go_end0
  exact ⟨rfl, T2, tc2, HR.out, hst⟩
end Go.Proofs.Ytcpjhlkcfohkiaa
