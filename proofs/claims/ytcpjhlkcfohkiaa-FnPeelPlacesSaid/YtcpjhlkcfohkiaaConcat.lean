/- slices.Grow of nil and slices.Concat. -/
import Derived.Test.YtcpjhlkcfohkiaaRetB
import Derived.Lib.AppendZeros
namespace Go.Proofs.Ytcpjhlkcfohkiaa
open Go.RowKit
set_option linter.unusedVariables false
set_option linter.unusedSimpArgs false

set_option maxRecDepth 100000 in
set_option maxHeartbeats 4000000 in
theorem growC_c (n : Nat) (hn0 : 0 < n) (hn : n ≤ 1000000000) (w : World) :
    Calls Try.prog 131 #[.slice none 0 0, .int .i64 n] w (fun e w' => ∃ A' c', e = .returned (.slice A' 0 c') ∧ OC w' w.heap.size A' 0 c' [] ∧ Below w.heap.size w w') := by
  obtain ⟨i0, hi, hz0, hz1, hz2⟩ := info_parts infoCode
  have happ := Lib.run_append_nil_zeros (P := Try.prog) w 24 3 24 45 i0 _ .i64 .i64 Try.underlying24 Try.underlying3 hi hz0 n hn0 (by omega) (by omega) (by rw [hz2]; omega)
  have hle : grownCap w n 0 45 ≤ maxLen := grownCap_le_maxLen w _ 0 45 (by unfold maxLen; omega)
  have hge : n ≤ grownCap w n 0 45 := grownCap_ge w _ 0 45
  generalize grownCap w n 0 45 = cap at happ hle hge
  generalize hZ : (Builtin.zeroCells (Value.agg #[.int .i64 0, .int .i64 0, .int .i64 0, .int .i64 0]).cells n ++ Builtin.zeroCells (Value.agg #[.int .i64 0, .int .i64 0, .int .i64 0, .int .i64 0]).cells (cap - n)) = Z at happ
  have hZs : Z.size = cap * 4 := by rw [← hZ]; simp [size_zeroCells, Value.cells]; omega
  clear hZ hi hz0 hz1 hz2
  have h1 : ¬ (n : Int) < 0 := by omega
  have h2 : IntKind.i64.wrap (n : Int) = n := IntWalk.i64_in _ (by omega)
  have h3 : (0 : Int) < (n : Int) := by omega
  go_enter Try.func131, Try.ntmps131
  go_wp2_with (at_builtin; refine Lib.wpList_append_run _ rfl _ _ _ _ rfl _ _ rfl rfl _ _ happ ?_)
  go_ret
  refine ⟨_, cap, rfl, ⟨rfl, .inr ⟨w.heap.size, cap, Z, rfl, Nat.le_refl _, heap_alloc_new w.drew _, Nat.zero_le _, hle, hZs, rfl⟩⟩, ?_⟩
  exact ⟨rfl, rfl, rfl, by simp, fun k hk => Below.heap_alloc w _ k hk⟩

/-- A slice of slices of instructions: address, capacity, what is read. -/
structure Sl where
  A : Addr
  c : Nat
  l : List Cd
def catL (S : List Sl) (k : Nat) : List Cd := (S.take k).flatMap (·.l)
theorem catL_succ {S : List Sl} {k : Nat} {s : Sl} (h : S[k]? = some s) : catL S (k + 1) = catL S k ++ s.l := by
  obtain ⟨hk, rfl⟩ := List.getElem?_eq_some_iff.1 h
  unfold catL
  rw [List.take_succ_eq_append_getElem hk, List.flatMap_append]
  simp
theorem catL_le (S : List Sl) (k : Nat) : (catL S k).length ≤ (catL S S.length).length := by
  have : catL S S.length = catL S k ++ (S.drop k).flatMap (·.l) := by
    unfold catL
    rw [List.take_length, ← List.flatMap_append, List.take_append_drop]
  rw [this, List.length_append]
  omega
def SlAt (w : World) (g : Nat) (S : List Sl) : Prop := ∀ j s, S[j]? = some s → w.cell? ⟨g, j, none⟩ = some (.slice (some s.A) s.l.length s.c) ∧ RdC w w.heap.size (some s.A) s.l
theorem SlAt.of {w : World} {g : Nat} {S : List Sl} {cs : Array Value} {t : TypeId} (hg : w.heap[g]? = some (.cells cs t (0, 0))) (hcs : cs.toList = S.map fun s => Value.slice (some s.A) s.l.length s.c)
    (hr : ∀ s, s ∈ S → RdC w w.heap.size (some s.A) s.l) : SlAt w g S := by
  intro j s hs
  refine ⟨?_, hr s (List.mem_of_getElem? hs)⟩
  rw [cell_of_heap hg, ← Array.getElem?_toList, hcs, List.getElem?_map, hs]
  rfl
theorem RdC.one {w : World} {g : Nat} {x : Cd} {t : TypeId} (h : w.heap[g]? = some (.cells #[.int .i64 x.op, .int .i64 x.a, .int .i64 x.b, .int .i64 x.c] t (0, 0))) : RdC w w.heap.size (some ⟨g, 0, none⟩) [x] := by
  refine ⟨rfl, fun _ => ⟨g, 0, rfl, lt_of_block h, fun j u hu => ?_⟩⟩
  rw [Nat.zero_add, cell_of_heap h, ← Array.getElem?_toList]
  exact hu
theorem SlAt.keep {w w' : World} {g : Nat} {S : List Sl} (h : SlAt w g S) (hb : Below w.heap.size w w') : ∀ j s, S[j]? = some s → w'.cell? ⟨g, j, none⟩ = some (.slice (some s.A) s.l.length s.c) ∧ RdC w' w.heap.size (some s.A) s.l :=
  fun j s hs => ⟨cell_kept hb (h j s hs).1, (h j s hs).2.below hb⟩

set_option maxRecDepth 100000 in
set_option maxHeartbeats 4000000 in
theorem concatC_c (g : Nat) (S : List Sl) (L : List Cd) (n m : Nat) (w : World) (hS : SlAt w g S) (hm : S.length = m) (hL : catL S S.length = L) (h0 : 0 < L.length) (h1 : L.length ≤ 1000000000) (hm2 : m ≤ 1000) :
    Calls Try.prog 118 #[.slice (some ⟨g, 0, none⟩) m m] w (fun e w' => ∃ A' c', e = .returned (.slice A' L.length c') ∧ OC w' w.heap.size A' L.length c' L ∧ Below w.heap.size w w') := by
  go_enter Try.func118, Try.ntmps118
  go_wp2
  go_loopw [3, 11] (fun sv iv wr => ∃ k : Nat, k ≤ m ∧ iv = .int .i64 k ∧ sv = .int .i64 (catL S k).length ∧ w = wr) (fun _ iv _ => m - (intOf iv).toNat)
  case atStart => exact ⟨0, Nat.zero_le _, rfl, rfl, rfl⟩
  case round =>
    obtain ⟨k, hk, rfl, rfl, rfl⟩ := hrel
    by_cases hlt : k < m
    · have hs : S[k]? = some (S[k]'(by omega)) := List.getElem?_eq_getElem (by omega)
      generalize S[k]'(by omega) = s at hs
      have c0 := (hS k s hs).1
      have hle := catL_le S (k + 1)
      rw [hL] at hle
      have hcs := Lib.hid (catL_succ hs)
      rw [catL_succ hs, List.length_append] at hle
      have q1 : IntKind.i64.wrap (((catL S k).length : Int) + (s.l.length : Int)) = ((catL S k).length : Int) + (s.l.length : Int) := IntWalk.i64_in _ (by omega)
      have q2 : ¬ (((catL S k).length : Int) + (s.l.length : Int)) < 0 := by omega
      clear hs
      go_wp2
      go_roundw
      case rel => exact ⟨k + 1, by omega, by go_num, by rw [hcs.out, List.length_append]; congr 1, trivial⟩
      case measure => simp [intOf]; omega
    · obtain rfl : k = m := by omega
      rw [show catL S k = L by rw [← hL, hm]]
      go_wp2_with fail
      refine (growC_c L.length h0 h1 _).mono ?_
      rintro e w1 ⟨A1, c1, rfl, ho1, hb1⟩
      go_wp2
      go_loopw [6, 27] (fun sv iv wr => ∃ (j : Nat) (A1 : Option Addr) (c1 : Nat), j ≤ k ∧ iv = .int .i64 j ∧ sv = .slice A1 (catL S j).length c1 ∧ OC wr w.heap.size A1 (catL S j).length c1 (catL S j) ∧ Below w.heap.size w wr) (fun _ iv _ => k - (intOf iv).toNat)
      case atStart => exact ⟨0, A1, c1, Nat.zero_le _, rfl, rfl, ho1, hb1⟩
      case round =>
        clear ho1 hb1
        obtain ⟨j, A1, c1, hj, rfl, rfl, ho, hb⟩ := hrel
        by_cases hlt2 : j < k
        · have hs : S[j]? = some (S[j]'(by omega)) := List.getElem?_eq_getElem (by omega)
          generalize S[j]'(by omega) = s at hs
          obtain ⟨c0, hr⟩ := hS.keep hb j s hs
          have hle := catL_le S (j + 1)
          rw [hL] at hle
          have hcs := Lib.hid (catL_succ hs)
          rw [catL_succ hs, List.length_append] at hle
          have hsz := hb.size
          go_wp2_with (at_builtin; refine app_cs rfl _ _ rfl w.heap.size _ _ _ _ ho rfl w.heap.size _ _ _ s.l rfl rfl ?hc hr ?hn ?hb ?_)
          case hc => simp
          case hn => omega
          case hb => exact hb.size
          intro A2 c2 w2 ho2 hg2
          have hb2 := below_gr hb hb.size ho (Nat.le_refl _) hg2
          go_wp2
          go_roundw
          case rel =>
            refine ⟨j + 1, A2, c2, by omega, by go_num, ?_, ?_, hb2⟩
            · rw [hcs.out, List.length_append]
            · rw [hcs.out, List.length_append]; exact ho2
          case measure => simp [intOf]; omega
        · obtain rfl : j = k := by omega
          rw [show catL S j = L by rw [← hL, hm]] at ho ⊢
          go_wp2
          go_ret
          exact ⟨A1, c1, rfl, ho, hb⟩
end Go.Proofs.Ytcpjhlkcfohkiaa
