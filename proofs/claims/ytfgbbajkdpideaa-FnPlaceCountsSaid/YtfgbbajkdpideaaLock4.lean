/- The reference's whole run in lockstep. -/
import Derived.Test.YtfgbbajkdpideaaMem
import Derived.Test.YtfgbbajkdpideaaLock3
import Derived.Test.YtfgbbajkdpideaaMem2
import Derived.Test.YtfgbbajkdpideaaValid1
import Derived.Deep.AppendLies
import Derived.Deep.RegionHeld3
import Derived.Deep.RegionLaw
namespace Go.Proofs.Ytfgbbajkdpideaa
open Go.RowKit
set_option linter.unusedVariables false
set_option linter.unusedSimpArgs false

/-- A run whose first k lanes have their registers. -/
structure AR (w : World) (B g : Nat) (A : Option Addr) (ca : Nat) (l : List Cd) (n mb mc : Nat) (mem : List Int) (T : Option Addr) (tc : Nat) (R : Option Addr) (rc : Nat) (rk : Nat → Nat) (k : Nat) : Prop where
  blk : w.heap[g]? = some (.cells #[.slice A l.length ca, .int .i64 n, .slice R k rc, .slice (some ⟨mb, 0, none⟩) mem.length mc, .slice T 0 tc, .bool false, .slice none 0 0, .bool false] 88 (0, 0))
  gB : B ≤ g
  out : OR w B 27 1 R k rc (rowVals rk k)
  inn : ∀ j, j < k → OI w B (some ⟨rk j, 0, none⟩) 4 4 [0, 0, 0, 0]
  mem : OI w B (some ⟨mb, 0, none⟩) mem.length mc mem
  trc : OR w B 56 2 T 0 tc []
  inj : ∀ i j, i < k → j < k → rk i = rk j → i = j
  mne : ∀ j, j < k → rk j ≠ mb
  lst : RdC w B A l

section
variable {w w3 : World} {B g : Nat} {A : Option Addr} {ca : Nat} {l : List Cd} {n mb mc : Nat} {mem : List Int} {T : Option Addr} {tc : Nat} {R : Option Addr} {rc : Nat} {rk : Nat → Nat} {k : Nat}
theorem rowVals_succ (rk : Nat → Nat) (k v : Nat) : rowVals (fun j => if j = k then v else rk j) (k + 1) = rowVals rk k ++ [.slice (some ⟨v, 0, none⟩) 4 4] := by
  unfold rowVals
  rw [List.range_succ, List.map_append]
  congr 1
  · apply List.map_congr_left
    intro j hj
    have : j < k := List.mem_range.1 hj
    simp [show j ≠ k by omega]
  · simp
theorem AR.ext {w' : World} (h : AR w B g A ca l n mb mc mem T tc R rc rk k) (hx : Ext w w') (hB : B ≤ w.heap.size) : AR w' B g A ca l n mb mc mem T tc R rc rk k :=
  ⟨hx.heap_ h.blk, h.gB, h.out.ext hx, fun j hj => OR.ext (h.inn j hj) hx, OR.ext h.mem hx, h.trc.ext hx, h.inj, h.mne, h.lst.below ((hx.below).mono hB)⟩
theorem AR.step (h : AR w B g A ca l n mb mc mem T tc R rc rk k) (hB : B ≤ w.heap.size) {gg cap : Nat} {cs : Array Value} (hcs : cs.toList = [.int .i64 0, .int .i64 0, .int .i64 0, .int .i64 0])
    (hg : ((w.alloc (.cells cs 3)).alloc (.cells #[.slice (some ⟨w.heap.size, 0, none⟩) 4 4] 27)).grownBy w3 (Value.ownBlock (.slice R k rc)))
    (ho : OR w3 B 27 1 (some ⟨gg, 0, none⟩) (k + 1) cap (rowVals rk k ++ [.slice (some ⟨w.heap.size, 0, none⟩) 4 4])) :
    AR (w3.setCell ⟨g, 2, none⟩ (.slice (some ⟨gg, 0, none⟩) (k + 1) cap)) B g A ca l n mb mc mem T tc (some ⟨gg, 0, none⟩) cap (fun j => if j = k then w.heap.size else rk j) (k + 1) ∧ Below B w (w3.setCell ⟨g, 2, none⟩ (.slice (some ⟨gg, 0, none⟩) (k + 1) cap)) := by
  have hX1 := Ext.alloc w (.cells cs 3)
  have hX2 := Ext.alloc (w.alloc (.cells cs 3)) (.cells #[.slice (some ⟨w.heap.size, 0, none⟩) 4 4] 27)
  have hrow : OI (w.alloc (.cells cs 3)) B (some ⟨w.heap.size, 0, none⟩) 4 4 [0, 0, 0, 0] := by
    have := OR.lit w B 3 1 4 cs hB (by omega) (by rw [← Array.length_toList, hcs]; rfl)
    rw [hcs] at this
    exact this
  have hrow2 := OR.ext hrow hX2
  have h2 := h.ext (hX1.trans hX2) hB
  have hglt : g < w.heap.size := lt_of_block h.blk
  generalize (w.alloc (.cells cs 3)).alloc (.cells #[.slice (some ⟨w.heap.size, 0, none⟩) 4 4] 27) = w2 at *
  have ownR : ∀ {b : Nat} {cb : Array Value} {t : TypeId}, w2.heap[b]? = some (.cells cb t (0, 0)) → 27 ≠ t → Value.ownBlock (.slice R k rc) ≠ some b := fun hb hne => own_ne h2.out hb hne
  have kp : ∀ j, j < w2.heap.size → Value.ownBlock (.slice R k rc) ≠ some j → w3.heap[j]? = w2.heap[j]? := fun j hj hne => hg.block j hj (fun e => hne e.symm)
  have hblk3 := (kp g (lt_of_block h2.blk) (ownR h2.blk (by decide))).trans h2.blk
  have hlst : Below B w2 w3 := ⟨hg.os, hg.tape, hg.output, hg.size, fun j hj => kp j (by have := hX1.size; have := hX2.size; omega) (fun e => by have := (OR.block h2.out j e).1; omega)⟩
  have hb2 : Below B w (w3.setCell ⟨g, 2, none⟩ (.slice (some ⟨gg, 0, none⟩) (k + 1) cap)) := ((((hX1.trans hX2).below).mono hB).trans hlst).setCell h.gB _
  have og : ∀ {e size n c : Nat} {A : Option Addr} {xs : List Value}, OR w3 B e size A n c xs → e ≠ 88 → OR (w3.setCell ⟨g, 2, none⟩ (.slice (some ⟨gg, 0, none⟩) (k + 1) cap)) B e size A n c xs := fun ho hne => OR.set_other ho (p := ⟨g, 2, none⟩) (own_ne ho hblk3 hne) _
  have okp : ∀ {e size n c : Nat} {A : Option Addr} {xs : List Value} {b : Nat}, A = some ⟨b, 0, none⟩ → OR w2 B e size A n c xs → e ≠ 27 → OR w3 B e size A n c xs := fun {e size n c A xs b} hA ho hne => by
    subst hA
    obtain ⟨cur, hc⟩ := OR.heap_ ho
    exact OR.kept ho hg (.inr fun e' => ownR hc (Ne.symm hne) e'.symm)
  have okT : OR w3 B 56 2 T 0 tc [] := by
    rcases h2.trc.2 with ⟨hv, hn⟩ | ⟨g', cap', cur, hv, hb', hg', hrest⟩
    · exact ⟨h2.trc.1, .inl ⟨hv, hn⟩⟩
    · refine ⟨h2.trc.1, .inr ⟨g', cap', cur, hv, hb', ?_, hrest⟩⟩
      exact (kp g' (lt_of_block hg') (ownR hg' (by decide))).trans hg'
  have lt_rk : ∀ j, j < k → rk j < w.heap.size := fun j hj => (OR.base_le (h.inn j hj)).2
  have lt_mb : mb < w.heap.size := (OR.base_le h.mem).2
  refine ⟨⟨?_, h.gB, og (by rw [rowVals_succ]; exact ho) (by decide), fun j hj => ?_, og (okp rfl h2.mem (by decide)) (by decide), og okT (by decide), fun i j hi hj e => ?_, fun j hj => ?_, h.lst.below hb2⟩, hb2⟩
  · rw [heap_set_same hblk3]
    rfl
  · by_cases e : j = k
    · subst e
      simp only [if_true]
      exact og (okp rfl hrow2 (by decide)) (by decide)
    · simp only [e, if_false]
      exact og (okp rfl (h2.inn j (by omega)) (by decide)) (by decide)
  · by_cases e1 : i = k <;> by_cases e2 : j = k <;> simp only [e1, e2, if_true, if_false] at e
    · omega
    · have := lt_rk j (by omega); omega
    · have := lt_rk i (by omega); omega
    · exact h.inj i j (by omega) (by omega) e
  · by_cases e1 : j = k <;> simp only [e1, if_true, if_false]
    · omega
    · exact h.mne j (by omega)
theorem AR.done {rg : Nat} (h : AR w B g A ca l n mb mc mem T tc (some ⟨rg, 0, none⟩) rc rk n) : SR w ⟨B, g, A, ca, l, n, rg, rc, rk, mb, mc⟩ T tc false (LS.start n mem) := by
  refine ⟨h.blk, h.gB, h.out, fun k hk => ?_, h.mem, h.trc, h.inj, h.mne, h.lst⟩
  have e : (LS.start n mem).regs.getD k [] = [0, 0, 0, 0] := by
    have hk' : k < n := hk
    simp [LS.start, List.getD_eq_getElem?_getD, hk']
  rw [e]
  exact h.inn k hk
end
theorem SOk.start {n : Nat} {mem : List Int} (hn : n ≤ 8) (hm : wordsOk mem) (h1 : 1 ≤ mem.length) (h2 : mem.length ≤ 32) : SOk n (LS.start n mem) :=
  ⟨hn, by simp [LS.start], fun r hr => by
    have : r = [0, 0, 0, 0] := (List.mem_replicate.1 hr).2
    subst this
    exact ⟨rfl, fun v hv => by simp at hv; omega⟩, hm, h1, h2⟩

/-- What l8All leaves. -/
def AllPost (w : World) (l : List Cd) (n : Nat) (s : LS) (e : Ending) (w' : World) : Prop :=
  ∃ (z : SW) (T : Option Addr) (tc : Nat), e = .returned (.pointer (some ⟨z.g, 0, none⟩)) ∧ z.B = w.heap.size ∧ z.l = l ∧ z.n = n ∧ SR w' z T tc (splitB l n s.beats) s ∧ Below w.heap.size w w'

theorem grown_drew2 {w w' : World} {row : Option Nat} (h : w.drew.grownBy w' row) : w.grownBy w' row := ⟨h.os, h.tape, h.output, h.size, h.block⟩

def ALRel (w : World) (g : Nat) (A : Option Addr) (ca : Nat) (l : List Cd) (n mb mc : Nat) (mem : List Int) (T : Option Addr) (tc : Nat) (kv : Value) (wr : World) : Prop :=
  ∃ (k : Nat) (R : Option Addr) (rc : Nat) (rk : Nat → Nat), k ≤ n ∧ kv = .int .i64 k ∧ AR wr w.heap.size g A ca l n mb mc mem T tc R rc rk k ∧ Below w.heap.size w wr

set_option maxRecDepth 100000 in
set_option maxHeartbeats 8000000 in
theorem l8All_c (A Am : Option Addr) (ca cm : Nat) (l : List Cd) (n : Nat) (mem : List Int) (b : Blk) (w : World) (hA : RdC w w.heap.size A l) (hM : RdI w w.heap.size Am mem) (hb : b.ok 3) (hl : l = b.flat) (hv : ∀ x ∈ l, cvOk x = true) (h40 : l.length ≤ 40)
    (hn1 : 1 ≤ n) (hn8 : n ≤ 8) (hm : wordsOk mem) (hm1 : 1 ≤ mem.length) (hm2 : mem.length ≤ 32) :
    Calls Try.prog 52 #[.slice A l.length ca, .int .i64 n, .slice Am mem.length cm] w (AllPost w l n (runT b n mem)) := by
  have HL := Lib.hid hl
  have HV := Lib.hid hv
  clear hl hv
  obtain ⟨mb0, mo0, y0, rfl, _, _, _⟩ := hM.at_ (k := 0) (by omega)
  have hM1 := Lib.hid (hM.below ((Below.refl w.heap.size w).alloc (Nat.le_refl _) (.cells #[] 3)))
  have ho0 := Lib.hid (OI.empty_ w w.heap.size (Nat.le_refl _))
  have hmk : ∀ w : World, (Instr.makeSlice 27 (.int .i64 4) (.int .i64 4)).run Try.prog w = .ok (.slice (some ⟨w.heap.size, 0, none⟩) 4 4) (w.alloc (.cells (zeroRow (.int .i64 0) 4) 3)) := make_int 4 (by omega)
  go_enter Try.func52, Try.ntmps52
  go_wp2_with (at_builtin; refine app_rd 27 3 _ 1 8 Try.underlying27 infoInt rfl (by decide) (by decide) rfl _ _ rfl w.heap.size _ 0 0 _ ho0.out rfl w.heap.size ⟨mb0, mo0, none⟩ mem.length cm _ rfl hM1.out (ints_one mem) ?hn ?hb ?_)
  case hn => omega
  case hb => simp
  intro A' c' w1 ho1 hg1
  have hb1 := below_gr ((Below.refl w.heap.size w).alloc (Nat.le_refl _) (.cells #[] 3)) (by simp) ho0.out (Nat.le_refl _) hg1
  replace ho1 : OI w1 w.heap.size A' mem.length c' mem := by unfold OI; simpa using ho1
  obtain ⟨mb, rfl, -, hmbl, -⟩ := OR.at_ ho1 (by omega)
  clear hM1 ho0 hg1
  go_wp2_with fail
  have hAR : AR ((w1.alloc (.cells #[] 56)).alloc (.cells #[.slice A l.length ca, .int .i64 n, .slice none 0 0, .slice (some ⟨mb, 0, none⟩) mem.length c', .slice (some ⟨w1.heap.size, 0, none⟩) 0 0, .bool false, .slice none 0 0, .bool false] 88)) w.heap.size (w1.heap.size + 1) A ca l n mb c' mem (some ⟨w1.heap.size, 0, none⟩) 0 none 0 (fun _ => 0) 0 := by
    have hs1 := hb1.size
    have hX := (Ext.alloc w1 (.cells #[] 56)).trans (Ext.alloc (w1.alloc (.cells #[] 56)) (.cells #[.slice A l.length ca, .int .i64 n, .slice none 0 0, .slice (some ⟨mb, 0, none⟩) mem.length c', .slice (some ⟨w1.heap.size, 0, none⟩) 0 0, .bool false, .slice none 0 0, .bool false] 88))
    refine ⟨?_, by omega, OR.nil_ _ _ _ _, fun j hj => by omega, OR.ext ho1 hX, ?_, fun i j hi => by omega, fun j hj => by omega, ?_⟩
    · have := heap_alloc_new (w1.alloc (.cells #[] 56)) (.cells #[.slice A l.length ca, .int .i64 n, .slice none 0 0, .slice (some ⟨mb, 0, none⟩) mem.length c', .slice (some ⟨w1.heap.size, 0, none⟩) 0 0, .bool false, .slice none 0 0, .bool false] 88)
      simp only [World.size_alloc] at this
      exact this
    · exact OR.alloc ((OR.lit w1 w.heap.size 56 2 0 #[] hs1 (by omega) rfl)) _
    · exact (hA.below hb1).below ((hX.below).mono hs1)
  have hbA : Below w.heap.size w ((w1.alloc (.cells #[] 56)).alloc (.cells #[.slice A l.length ca, .int .i64 n, .slice none 0 0, .slice (some ⟨mb, 0, none⟩) mem.length c', .slice (some ⟨w1.heap.size, 0, none⟩) 0 0, .bool false, .slice none 0 0, .bool false] 88)) := (hb1.alloc hb1.size _).alloc (by have := hb1.size; simp; omega) _
  generalize (w1.alloc (.cells #[] 56)).alloc (.cells #[.slice A l.length ca, .int .i64 n, .slice none 0 0, .slice (some ⟨mb, 0, none⟩) mem.length c', .slice (some ⟨w1.heap.size, 0, none⟩) 0 0, .bool false, .slice none 0 0, .bool false] 88) = w2 at *
  generalize w1.heap.size + 1 = g at *
  generalize (some ⟨w1.heap.size, 0, none⟩ : Option Addr) = T at *
  clear ho1 hb1 hmbl
  go_loopw [8] (fun kv wr => ALRel w g A ca l n mb c' mem T 0 kv wr) (fun kv _ => n - (intOf kv).toNat)
  case atStart => exact ⟨0, none, 0, _, Nat.zero_le _, rfl, hAR, hbA⟩
  case round =>
    clear hAR hbA
    obtain ⟨k, R, rc, rk, hk, rfl, hR, hb2⟩ := hrel
    have hBr := hb2.size
    have hblk := hR.blk
    have c2 : wr.cell? ⟨g, 2, none⟩ = some (.slice R k rc) := cell_of_heap hblk 2
    have HR := Lib.hid hR
    by_cases hlt : k < n
    · obtain ⟨i0, hi0, hz0, hz1, hz2⟩ := info_parts infoRows
      have hOR := Lib.hid (OR.drew (OR.alloc (OR.alloc hR.out (.cells (zeroRow (.int .i64 0) 4) 3)) (.cells #[.slice (some ⟨wr.heap.size, 0, none⟩) 4 4] 27)))
      have hgl : g < wr.heap.size := lt_of_block hblk
      have hne : Value.ownBlock (.slice R k rc) ≠ some g := own_ne hR.out hblk (by decide)
      have hnew := heap_alloc_new (wr.alloc (.cells (zeroRow (.int .i64 0) 4) 3)) (.cells #[.slice (some ⟨wr.heap.size, 0, none⟩) 4 4] 27)
      simp only [World.size_alloc] at hnew
      have f2 := free_of_heap hblk 2
      have h1 := (Below.heap_alloc wr (.cells (zeroRow (.int .i64 0) 4) 3) g hgl).trans hblk
      have h2 := (Below.heap_alloc (wr.alloc (.cells (zeroRow (.int .i64 0) 4) 3)) (.cells #[.slice (some ⟨wr.heap.size, 0, none⟩) 4 4] 27) g (by simp; omega)).trans h1
      clear hR
      go_wp2_with fail
      go_region_law ((refine step_append_lies _ (by rfl) _ _ _ (by rfl) w.heap.size 27 i0 _ 1 24 Try.underlying60 hi0 hz0 hz1 hz2 rfl (by omega) (.slice R k rc) k _ (by rfl) hOR.out ⟨wr.heap.size + 1, 0, none⟩ 1 1 [.slice (some ⟨wr.heap.size, 0, none⟩) 4 4] (by rfl) (by rfl) (World.news_of_block (cs := #[.slice (some ⟨wr.heap.size, 0, none⟩) 4 4]) (t := 27) (fr := (0, 0)) hnew) (by simp [Value.oneCell']) (by omega) (by unfold maxLen; omega) (by omega) (by simp; omega) (wr.heap.size + 2) (by simp) ?_; intro gg cap w3 ho3 hgrow hat hlt3; have f3 := free_of_heap ((hgrow.block g (by simp; omega) (fun e => hne e.symm)).trans h2) 2; have c3 := cell_of_heap ((hgrow.block g (by simp; omega) (fun e => hne e.symm)).trans h2) 2))
      all_goals
        have hst := HR.out.step hBr (cs := zeroRow (.int .i64 0) 4) ((toList_madeCells_one _ _).trans rfl) (grown_drew2 hgrow) ho3
        clear c2 hblk h1 h2 f2 hnew hOR ho3 hgrow c3 f3 hat
        obtain ⟨hR', hbS⟩ := hst
        have hb3 := hb2.trans hbS
        go_wp2
        refine ⟨⟨k + 1, _, cap, _, by omega, by go_num, hR', hb3⟩, ?_⟩
        simp [intOf]; omega
    · obtain rfl : k = n := by omega
      obtain ⟨rg, rfl, -, -, -⟩ := OR.at_ hR.out (by omega)
      have hSR := hR.done
      have hmm : 2 ^ k - 1 < 2 ^ k := by have : 0 < 2 ^ k := Nat.pow_pos (by decide); omega
      have hwt := wt_le b 3 hb
      rw [← HL.out] at hwt
      have hall : maskAllI (k : Int) = ((2 ^ k - 1 : Nat) : Int) := by
        have : k = 1 ∨ k = 2 ∨ k = 3 ∨ k = 4 ∨ k = 5 ∨ k = 6 ∨ k = 7 ∨ k = 8 := by omega
        rcases this with rfl | rfl | rfl | rfl | rfl | rfl | rfl | rfl <;> decide
      have HALL := Lib.hid hall
      clear hall c2 hblk
      go_wp2_with fail
      refine (sMaskAll_c k wr).mono ?_
      rintro e w5 ⟨rfl, rfl⟩
      go_wp2_with fail
      refine (block_c b.flat.length b 3 (Nat.le_refl _) hb wr ⟨w.heap.size, g, A, ca, l, k, rg, rc, rk, mb, c'⟩ T 0 (LS.start k mem) 0 (2 ^ k - 1) l.length 0 l.length _ [] hSR (SOk.start hn8 hm hm1 hm2) hmm (by simp [HL.out]) (by simp [HL.out]) (show l.length ≤ 1000000000 by omega) (Nat.le_refl _) hBr (by simp [LS.start]; omega) HV.out rfl rfl HALL.out).mono ?_
      rintro e w6 ⟨rfl, T', tc', hS', hst'⟩
      go_wp2
      go_ret
      exact ⟨⟨w.heap.size, g, A, ca, l, k, rg, rc, rk, mb, c'⟩, T', tc', rfl, rfl, rfl, rfl, hS', hb2.trans hst'.bel⟩

end Go.Proofs.Ytfgbbajkdpideaa
