/- The reader of drawn bytes: l20Open, pick, odd. -/
import Derived.Test.YtcpjhlkcfohkiaaRet
import Derived.Test.YtcpjhlkcfohkiaaBits
import Derived.StillTailTactics
namespace Go.Proofs.Ytcpjhlkcfohkiaa
open Go.RowKit
set_option linter.unusedVariables false
set_option linter.unusedSimpArgs false

/-- The reader at block g: it reads a row of bytes that lies below B; it has been read at most K times. -/
def RdS (w : World) (B g K : Nat) : Prop :=
  ∃ (A : Option Addr) (c p : Nat) (bs : List Int), w.heap[g]? = some (.cells #[.slice A bs.length c, .int .i64 p] 105 (0, 0)) ∧ Reads w B 1 A bs.length (bs.map (.int .u8)) ∧ (∀ x ∈ bs, 0 ≤ x ∧ x ≤ 255) ∧ bs.length ≤ 2000 ∧ p ≤ K ∧ B ≤ g

section
variable {w w' : World} {B g K : Nat}
theorem RdS.lt (h : RdS w B g K) : g < w.heap.size := by
  obtain ⟨A, c, p, bs, hb, -⟩ := h
  exact lt_of_block hb
theorem RdS.base (h : RdS w B g K) : B ≤ g := by
  obtain ⟨A, c, p, bs, -, -, -, -, -, h⟩ := h
  exact h
theorem RdS.more (h : RdS w B g K) {K' : Nat} (hK : K ≤ K') : RdS w B g K' := by
  obtain ⟨A, c, p, bs, h1, h2, h3, h4, h5, h6⟩ := h
  exact ⟨A, c, p, bs, h1, h2, h3, h4, by omega, h6⟩
/-- Something else is written, or made. -/
theorem RdS.off (h : RdS w B g K) {row : Option Nat} (hg : w.grownBy w' row) (hne : ∀ k, row = some k → B ≤ k ∧ k ≠ g) : RdS w' B g K := by
  obtain ⟨A, c, p, bs, h1, h2, h3, h4, h5, h6⟩ := h
  have hlt := lt_of_block h1
  refine ⟨A, c, p, bs, (hg.block g hlt (fun e => (hne g e.symm).2 rfl)).trans h1, h2.keep fun q hq => ?_, h3, h4, h5, h6⟩
  exact World.cell?_of_block (hg.block _ (by omega) (fun e => by have := (hne _ e.symm).1; omega))
theorem RdS.alloc (h : RdS w B g K) (o : Obj) : RdS (w.alloc o) B g K := h.off (World.grownBy_alloc _ _ none) (fun _ e => by cases e)
theorem RdS.drew (h : RdS w B g K) : RdS w.drew B g K := h
theorem RdS.drewN (h : RdS w B g K) (n : Nat) : RdS (w.drewN n) B g K := h
theorem RdS.setp (h : RdS w B g K) {K' q : Nat} (hq : q ≤ K') : RdS (w.setCell ⟨g, 1, none⟩ (.int .i64 q)) B g K' := by
  obtain ⟨A, c, p, bs, h1, h2, h3, h4, h5, h6⟩ := h
  refine ⟨A, c, q, bs, ?_, h2.keep fun x hx => ?_, h3, h4, hq, h6⟩
  · rw [heap_set_same h1]; rfl
  · rw [World.cell?_setCell_other]; intro e; subst e; simp at hx; omega
end

theorem bits_xor64 (a b : Nat) (ha : a < 4611686018427387904) (hb : b < 4611686018427387904) : bits .xor .i64 (a : Int) (b : Int) = ((a ^^^ b : Nat) : Int) := by
  have h : a ^^^ b < 2 ^ 62 := Nat.xor_lt_two_pow (by simpa using ha) (by simpa using hb)
  show IntKind.i64.wrap ((BitVec.ofInt 64 (a : Int) ^^^ BitVec.ofInt 64 (b : Int)).toNat : Int) = _
  rw [BitVec.toNat_xor, ofInt_nat64 a (by omega), ofInt_nat64 b (by omega)]
  exact wrap64_small _ (by omega) (by omega)

set_option maxRecDepth 100000 in
set_option maxHeartbeats 4000000 in
theorem pick_c {w : World} {B g K : Nat} (h : RdS w B g K) (hK : K ≤ 1000000000) (n : Nat) (hn1 : 1 ≤ n) (hn : n ≤ 1000000000) :
    Calls Try.prog 74 #[.pointer (some ⟨g, 0, none⟩), .int .i64 n] w fun e w' => ∃ v : Nat, e = .returned (.int .i64 v) ∧ v < n ∧ RdS w' B g (K + 1) ∧ w.grownBy w' (some g) ∧ w'.heap.size = w.heap.size ∧ ∃ q k : Nat, q ≤ K + 1 ∧ w' = (w.setCell ⟨g, 1, none⟩ (.int .i64 q)).drewN k := by
  obtain ⟨A, c, p, bs, h1, h2, h3, h4, h5, h6⟩ := h
  have c0 := cell_of_heap h1 0
  have c1 := cell_of_heap h1 1
  have f1 := free_of_heap h1 1
  have hX := Lib.hid (show RdS (w.setCell ⟨g, 1, none⟩ (.int .i64 ((p : Int) + 1))) B g (K + 1) from by
    refine ⟨A, c, p + 1, bs, ?_, h2.keep fun q hq => ?_, h3, h4, by omega, h6⟩
    · rw [heap_set_same h1]; rfl
    · rw [World.cell?_setCell_other]; intro e; subst e; simp at hq; omega)
  have hG := Lib.hid (show w.grownBy (w.setCell ⟨g, 1, none⟩ (.int .i64 ((p : Int) + 1))) (some g) from grown_set (grown_refl w _) 1 _)
  have hp1 : IntKind.i64.wrap ((p : Int) + 1) = (p : Int) + 1 := IntWalk.i64_in _ (by omega)
  have n1 : decide ((n : Int) < 1) = false := decide_eq_false (by omega)
  by_cases h0 : bs.length = 0
  · rw [h0] at c0
    go_enter Try.func74, Try.ntmps74
    go_wp2
    go_ret
    exact ⟨0, rfl, by omega, hX.out, hG.out, by simp [World.setCell], p + 1, 0, by omega, rfl⟩
  · have n0 : ((bs.length : Int) == 0) = false := by rw [beq_eq_false_iff_ne]; omega
    by_cases hlt : p < bs.length
    · obtain ⟨b, off, rfl, hbB, hc⟩ := h2.2 (by omega)
      have hx : bs[p]? = some (bs[p]) := List.getElem?_eq_getElem hlt
      have hxr := h3 _ (List.getElem_mem hlt)
      generalize bs[p] = x at hx hxr
      obtain ⟨xn, rfl⟩ := Int.eq_ofNat_of_zero_le hxr.1
      have cx := hc p (.int .u8 xn) (by rw [List.getElem?_map, hx]; rfl)
      have hne : b ≠ g := by omega
      have q1 : IntKind.i64.wrap ((p : Int) + 1 - 1) = (p : Int) := by rw [show (p : Int) + 1 - 1 = (p : Int) by omega]; exact IntWalk.i64_in _ (by omega)
      have q2 : IntKind.i64.wrap (xn : Int) = (xn : Int) := IntWalk.i64_in _ (by omega)
      have q3 : Int.tmod (xn : Int) (n : Int) = ((xn % n : Nat) : Int) := by rw [Int.tmod_eq_emod_of_nonneg (by omega)]; omega
      have q4 : IntKind.i64.wrap ((xn % n : Nat) : Int) = ((xn % n : Nat) : Int) := IntWalk.i64_in _ (by have := Nat.mod_lt xn (show n > 0 by omega); omega)
      have hr := Nat.mod_lt xn (show n > 0 by omega)
      have lp : (p : Int) < (bs.length : Int) := by omega
      clear hc h2 hx h3
      go_enter Try.func74, Try.ntmps74
      go_wp2
      go_ret
      exact ⟨xn % n, rfl, hr, hX.out, hG.out, by simp [World.setCell], p + 1, 0, by omega, rfl⟩
    · have hlen : 1 ≤ bs.length := by omega
      obtain ⟨b, off, rfl, hbB, hc⟩ := h2.2 (by omega)
      have hi1 : p % bs.length < bs.length := Nat.mod_lt _ (by omega)
      have hi2 : (p * 7 + 3) % bs.length < bs.length := Nat.mod_lt _ (by omega)
      have hx1 : bs[p % bs.length]? = some (bs[p % bs.length]) := List.getElem?_eq_getElem hi1
      have hx2 : bs[(p * 7 + 3) % bs.length]? = some (bs[(p * 7 + 3) % bs.length]) := List.getElem?_eq_getElem hi2
      have hr1 := h3 _ (List.getElem_mem hi1)
      have hr2 := h3 _ (List.getElem_mem hi2)
      generalize bs[p % bs.length] = y1 at hx1 hr1
      generalize bs[(p * 7 + 3) % bs.length] = y2 at hx2 hr2
      obtain ⟨x1, rfl⟩ := Int.eq_ofNat_of_zero_le hr1.1
      obtain ⟨x2, rfl⟩ := Int.eq_ofNat_of_zero_le hr2.1
      have cx1 := hc _ (.int .u8 x1) (by rw [List.getElem?_map, hx1]; rfl)
      have cx2 := hc _ (.int .u8 x2) (by rw [List.getElem?_map, hx2]; rfl)
      have hne : b ≠ g := by omega
      have q1 : IntKind.i64.wrap ((p : Int) + 1 - 1) = (p : Int) := by rw [show (p : Int) + 1 - 1 = (p : Int) by omega]; exact IntWalk.i64_in _ (by omega)
      have t1 : Int.tmod (p : Int) (bs.length : Int) = ((p % bs.length : Nat) : Int) := by rw [Int.tmod_eq_emod_of_nonneg (by omega)]; omega
      have t2 : Int.tmod ((p : Int) * 7 + 3) (bs.length : Int) = (((p * 7 + 3) % bs.length : Nat) : Int) := by rw [Int.tmod_eq_emod_of_nonneg (by omega)]; push_cast; rfl
      have t3 : Int.tdiv (p : Int) (bs.length : Int) = ((p / bs.length : Nat) : Int) := by rw [Int.tdiv_eq_ediv_of_nonneg (by omega)]; omega
      have hd : p / bs.length ≤ p := Nat.div_le_self _ _
      generalize p % bs.length = i1 at *
      generalize (p * 7 + 3) % bs.length = i2 at *
      generalize p / bs.length = d at *
      obtain ⟨V, hV⟩ : ∃ V : Nat, bits .xor .i64 ((x1 : Int) * 131 + (x2 : Int) * 1117 + (p : Int) * 29 + (d : Int) * 53) (((x1 : Int) * 131 + (x2 : Int) * 1117 + (p : Int) * 29 + (d : Int) * 53) / 64) = (V : Int) := ⟨_, by
        rw [show (x1 : Int) * 131 + (x2 : Int) * 1117 + (p : Int) * 29 + (d : Int) * 53 = ((x1 * 131 + x2 * 1117 + p * 29 + d * 53 : Nat) : Int) by push_cast; rfl, show (((x1 * 131 + x2 * 1117 + p * 29 + d * 53 : Nat) : Int)) / 64 = (((x1 * 131 + x2 * 1117 + p * 29 + d * 53) / 64 : Nat) : Int) by omega]
        exact bits_xor64 _ _ (by omega) (by omega)⟩
      have t4 : Int.tmod (V : Int) (n : Int) = ((V % n : Nat) : Int) := by rw [Int.tmod_eq_emod_of_nonneg (by omega)]; omega
      have hr := Nat.mod_lt V (show n > 0 by omega)
      clear hc h2 hx1 hx2 h3
      go_enter Try.func74, Try.ntmps74
      go_wp2_with fail
      go_quiet (fail)
      go_wp2
      go_ret
      exact ⟨V % n, rfl, hr, hX.out, ⟨hG.out.os, hG.out.tape, hG.out.output, hG.out.size, hG.out.block⟩, by show (w.setCell ⟨g, 1, none⟩ _).heap.size = _; simp [World.setCell], p + 1, _, by omega, rfl⟩

/-- The same, for a number as it is written. -/
theorem pick_i {w : World} {B g K : Nat} (h : RdS w B g K) (hK : K ≤ 1000000000) (m : Int) (h1 : 1 ≤ m) (h2 : m ≤ 1000000000) :
    Calls Try.prog 74 #[.pointer (some ⟨g, 0, none⟩), .int .i64 m] w fun e w' => ∃ v : Nat, e = .returned (.int .i64 v) ∧ (v : Int) < m ∧ RdS w' B g (K + 1) ∧ w.grownBy w' (some g) ∧ w'.heap.size = w.heap.size ∧ ∃ q k : Nat, q ≤ K + 1 ∧ w' = (w.setCell ⟨g, 1, none⟩ (.int .i64 q)).drewN k := by
  obtain ⟨n, rfl⟩ := Int.eq_ofNat_of_zero_le (show 0 ≤ m by omega)
  refine (pick_c h hK n (by omega) (by omega)).mono ?_
  rintro e w1 ⟨v, he, hv, hr⟩
  exact ⟨v, he, by omega, hr⟩

theorem odd_c {w : World} {B g K : Nat} (h : RdS w B g K) (hK : K ≤ 1000000000) (n : Nat) (hn : n ≤ 1000000000) :
    Calls Try.prog 106 #[.pointer (some ⟨g, 0, none⟩), .int .i64 n] w fun e w' => ∃ v : Bool, e = .returned (.bool v) ∧ (n = 0 → v = false) ∧ RdS w' B g (K + 1) ∧ w.grownBy w' (some g) ∧ w'.heap.size = w.heap.size := by
  by_cases h0 : n = 0
  · subst h0
    go_enter Try.func106, Try.ntmps106
    go_wp2
    go_ret
    exact ⟨false, rfl, fun _ => rfl, h.more (by omega), grown_refl _ _, rfl⟩
  · have hp : decide ((n : Int) > 0) = true := decide_eq_true (by omega)
    have hq : IntKind.i64.wrap ((n : Int) - 1) = (n : Int) - 1 := IntWalk.i64_in _ (by omega)
    go_enter Try.func106, Try.ntmps106
    go_wp2_with fail
    refine (pick_c h hK n (by omega) hn).mono ?_
    rintro e w1 ⟨v, rfl, hv, h1, hg, hs, -⟩
    go_wp2
    go_ret
    exact ⟨_, rfl, fun e => absurd e h0, h1, hg, hs⟩

theorem Reads.sub0 {w : World} {B : Nat} {A : Option Addr} {xs : List Int} {k : IntKind} (h : Reads w B 1 A xs.length (xs.map (.int k))) (n : Nat) (hn : n ≤ xs.length) : Reads w B 1 A (xs.take n).length ((xs.take n).map (.int k)) := by
  refine ⟨by simp, fun hp => ?_⟩
  have hl : (xs.take n).length = n := by simp; omega
  obtain ⟨b, off, e, hb, hc⟩ := h.2 (by omega)
  refine ⟨b, off, e, hb, fun j u hu => hc j u ?_⟩
  rw [List.getElem?_map, List.getElem?_take] at hu
  split at hu
  · rw [List.getElem?_map]; exact hu
  · simp at hu
theorem l20Open_c (A : Option Addr) (c : Nat) (bs : List Int) (w : World) (hA : Reads w w.heap.size 1 A bs.length (bs.map (.int .u8))) (hb : ∀ x ∈ bs, 0 ≤ x ∧ x ≤ 255) (hl : bs.length ≤ 9223372036854775807) (hcap : bs.length ≤ c) :
    Calls Try.prog 73 #[.slice A bs.length c] w fun e w' => e = .returned (.pointer (some ⟨w.heap.size, 0, none⟩)) ∧ RdS w' w.heap.size w.heap.size 0 ∧ Below w.heap.size w w' ∧ w'.heap.size = w.heap.size + 1 := by
  by_cases h2 : 2000 < bs.length
  · have hT := Reads.sub0 hA 2000 (by omega)
    have hlt : (bs.take 2000).length = 2000 := by simp; omega
    have hbt : ∀ x ∈ bs.take 2000, 0 ≤ x ∧ x ≤ 255 := fun x hx => hb x (List.mem_of_mem_take hx)
    obtain ⟨b, off, rfl, hbB, hc⟩ := hA.2 (by omega)
    generalize bs.take 2000 = bt at *
    have hc2 : (2000 : Int) ≤ (c : Int) := by omega
    have hlI : (2000 : Int) < (bs.length : Int) := by omega
    go_enter Try.func73, Try.ntmps73
    go_wp2
    go_ret
    refine ⟨rfl, ⟨some ⟨b, off, none⟩, c, 0, bt, ?_, hT.below ((by repeat (first | exact Below.refl _ _ | assumption | refine Below.alloc ?_ (by simp <;> omega) _ | refine Below.setCell ?_ (by simp <;> omega) _ | refine Below.drew ?_))), hbt, by omega, Nat.le_refl _, Nat.le_refl _⟩, (by repeat (first | exact Below.refl _ _ | assumption | refine Below.alloc ?_ (by simp <;> omega) _ | refine Below.setCell ?_ (by simp <;> omega) _ | refine Below.drew ?_)), by simp⟩
    rw [hlt]
    exact heap_alloc_new _ _
  · go_enter Try.func73, Try.ntmps73
    go_wp2
    go_ret
    refine ⟨rfl, ⟨A, c, 0, bs, heap_alloc_new _ _, hA.below ((by repeat (first | exact Below.refl _ _ | assumption | refine Below.alloc ?_ (by simp <;> omega) _ | refine Below.setCell ?_ (by simp <;> omega) _ | refine Below.drew ?_))), hb, by omega, Nat.le_refl _, Nat.le_refl _⟩, (by repeat (first | exact Below.refl _ _ | assumption | refine Below.alloc ?_ (by simp <;> omega) _ | refine Below.setCell ?_ (by simp <;> omega) _ | refine Below.drew ?_)), by simp⟩
end Go.Proofs.Ytcpjhlkcfohkiaa
