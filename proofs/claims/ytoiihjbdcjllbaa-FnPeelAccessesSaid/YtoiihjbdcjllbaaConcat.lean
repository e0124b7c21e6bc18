/- slices.Grow of nil and slices.Concat. -/
import Derived.Test.YtoiihjbdcjllbaaMem2
import Derived.Lib.AppendZeros
import Derived.Test.YtoiihjbdcjllbaaSyn
import Derived.Test.YtoiihjbdcjllbaaBlocks0
import Derived.Test.YtoiihjbdcjllbaaPicks
namespace Go.Proofs.Ytoiihjbdcjllbaa
open Go.RowKit
set_option linter.unusedVariables false
set_option linter.unusedSimpArgs false

set_option maxRecDepth 100000 in
set_option maxHeartbeats 4000000 in
theorem growC_c (n : Nat) (hn0 : 0 < n) (hn : n ≤ 1000000000) (w : World) :
    Calls Try.prog 100 #[.slice none 0 0, .int .i64 n] w (fun e w' => ∃ A' c', e = .returned (.slice A' 0 c') ∧ OC w' w.heap.size A' 0 c' [] ∧ Below w.heap.size w w') := by
  obtain ⟨i0, hi, hz0, hz1, hz2⟩ := info_parts infoCode
  have happ := Lib.run_append_nil_zeros (P := Try.prog) w 23 3 23 32 i0 _ .i64 .i64 Try.underlying23 Try.underlying3 hi hz0 n hn0 (by omega) (by omega) (by rw [hz2]; omega)
  have hle : grownCap w n 0 32 ≤ maxLen := grownCap_le_maxLen w _ 0 32 (by unfold maxLen; omega)
  have hge : n ≤ grownCap w n 0 32 := grownCap_ge w _ 0 32
  generalize grownCap w n 0 32 = cap at happ hle hge
  generalize hZ : (Builtin.zeroCells (Value.agg #[.int .i64 0, .int .i64 0, .int .i64 0, .int .i64 0]).cells n ++ Builtin.zeroCells (Value.agg #[.int .i64 0, .int .i64 0, .int .i64 0, .int .i64 0]).cells (cap - n)) = Z at happ
  have hZs : Z.size = cap * 4 := by rw [← hZ]; simp [size_zeroCells, Value.cells]; omega
  clear hZ hi hz0 hz1 hz2
  have h1 : ¬ (n : Int) < 0 := by omega
  have h2 : IntKind.i64.wrap (n : Int) = n := IntWalk.i64_in _ (by omega)
  have h3 : (0 : Int) < (n : Int) := by omega
  go_enter Try.func100, Try.ntmps100
  go_wp2_with (at_builtin; refine Lib.wpList_append_run _ rfl _ _ _ _ rfl _ _ rfl rfl _ _ happ ?_)
  go_ret
  refine ⟨_, cap, rfl, ⟨rfl, .inr ⟨w.heap.size, cap, Z, rfl, Nat.le_refl _, heap_alloc_new w.drew _, Nat.zero_le _, hle, hZs, rfl⟩⟩, ?_⟩
  exact ⟨rfl, rfl, rfl, by simp, fun k hk => Below.heap_alloc w _ k hk⟩

/-- A slice of slices of instructions: address, capacity, what is read. -/
structure Sl where
  A : Addr
  c : Nat
  l : List Cd
def catL (S : List Sl) (k : Nat) : List Cd := (S.take k).flatMap (·.l)
theorem catL_succ {S : List Sl} {k : Nat} {s : Sl} (h : S[k]? = some s) : catL S (k + 1) = catL S k ++ s.l := by
  obtain ⟨hk, rfl⟩ := List.getElem?_eq_some_iff.1 h
  unfold catL
  rw [List.take_succ_eq_append_getElem hk, List.flatMap_append]
  simp
theorem catL_le (S : List Sl) (k : Nat) : (catL S k).length ≤ (catL S S.length).length := by
  have : catL S S.length = catL S k ++ (S.drop k).flatMap (·.l) := by
    unfold catL
    rw [List.take_length, ← List.flatMap_append, List.take_append_drop]
  rw [this, List.length_append]
  omega
def SlAt (w : World) (g : Nat) (S : List Sl) : Prop := ∀ j s, S[j]? = some s → w.cell? ⟨g, j, none⟩ = some (.slice (some s.A) s.l.length s.c) ∧ RdC w w.heap.size (some s.A) s.l
theorem SlAt.of {w : World} {g : Nat} {S : List Sl} {cs : Array Value} {t : TypeId} (hg : w.heap[g]? = some (.cells cs t (0, 0))) (hcs : cs.toList = S.map fun s => Value.slice (some s.A) s.l.length s.c)
    (hr : ∀ s, s ∈ S → RdC w w.heap.size (some s.A) s.l) : SlAt w g S := by
  intro j s hs
  refine ⟨?_, hr s (List.mem_of_getElem? hs)⟩
  rw [cell_of_heap hg, ← Array.getElem?_toList, hcs, List.getElem?_map, hs]
  rfl
theorem RdC.one {w : World} {g : Nat} {x : Cd} {t : TypeId} (h : w.heap[g]? = some (.cells #[.int .i64 x.op, .int .i64 x.a, .int .i64 x.b, .int .i64 x.c] t (0, 0))) : RdC w w.heap.size (some ⟨g, 0, none⟩) [x] := by
  refine ⟨rfl, fun _ => ⟨g, 0, rfl, lt_of_block h, fun j u hu => ?_⟩⟩
  rw [Nat.zero_add, cell_of_heap h, ← Array.getElem?_toList]
  exact hu
theorem SlAt.keep {w w' : World} {g : Nat} {S : List Sl} (h : SlAt w g S) (hb : Below w.heap.size w w') : ∀ j s, S[j]? = some s → w'.cell? ⟨g, j, none⟩ = some (.slice (some s.A) s.l.length s.c) ∧ RdC w' w.heap.size (some s.A) s.l :=
  fun j s hs => ⟨cell_kept hb (h j s hs).1, (h j s hs).2.below hb⟩

set_option maxRecDepth 100000 in
set_option maxHeartbeats 4000000 in
theorem concatC_c (g : Nat) (S : List Sl) (L : List Cd) (n m : Nat) (w : World) (hS : SlAt w g S) (hm : S.length = m) (hL : catL S S.length = L) (h0 : 0 < L.length) (h1 : L.length ≤ 1000000000) (hm2 : m ≤ 1000) :
    Calls Try.prog 83 #[.slice (some ⟨g, 0, none⟩) m m] w (fun e w' => ∃ A' c', e = .returned (.slice A' L.length c') ∧ OC w' w.heap.size A' L.length c' L ∧ Below w.heap.size w w') := by
  go_enter Try.func83, Try.ntmps83
  go_wp2
  go_loopw [3, 11] (fun sv iv wr => ∃ k : Nat, k ≤ m ∧ iv = .int .i64 k ∧ sv = .int .i64 (catL S k).length ∧ w = wr) (fun _ iv _ => m - (intOf iv).toNat)
  case atStart => exact ⟨0, Nat.zero_le _, rfl, rfl, rfl⟩
  case round =>
    obtain ⟨k, hk, rfl, rfl, rfl⟩ := hrel
    by_cases hlt : k < m
    · have hs : S[k]? = some (S[k]'(by omega)) := List.getElem?_eq_getElem (by omega)
      generalize S[k]'(by omega) = s at hs
      have c0 := (hS k s hs).1
      have hle := catL_le S (k + 1)
      rw [hL] at hle
      have hcs := Lib.hid (catL_succ hs)
      rw [catL_succ hs, List.length_append] at hle
      have q1 : IntKind.i64.wrap (((catL S k).length : Int) + (s.l.length : Int)) = ((catL S k).length : Int) + (s.l.length : Int) := IntWalk.i64_in _ (by omega)
      have q2 : ¬ (((catL S k).length : Int) + (s.l.length : Int)) < 0 := by omega
      clear hs
      go_wp2
      go_roundw
      case rel => exact ⟨k + 1, by omega, by go_num, by rw [hcs.out, List.length_append]; congr 1, trivial⟩
      case measure => simp [intOf]; omega
    · obtain rfl : k = m := by omega
      rw [show catL S k = L by rw [← hL, hm]]
      go_wp2_with fail
      refine (growC_c L.length h0 h1 _).mono ?_
      rintro e w1 ⟨A1, c1, rfl, ho1, hb1⟩
      go_wp2
      go_loopw [6, 27] (fun sv iv wr => ∃ (j : Nat) (A1 : Option Addr) (c1 : Nat), j ≤ k ∧ iv = .int .i64 j ∧ sv = .slice A1 (catL S j).length c1 ∧ OC wr w.heap.size A1 (catL S j).length c1 (catL S j) ∧ Below w.heap.size w wr) (fun _ iv _ => k - (intOf iv).toNat)
      case atStart => exact ⟨0, A1, c1, Nat.zero_le _, rfl, rfl, ho1, hb1⟩
      case round =>
        clear ho1 hb1
        obtain ⟨j, A1, c1, hj, rfl, rfl, ho, hb⟩ := hrel
        by_cases hlt2 : j < k
        · have hs : S[j]? = some (S[j]'(by omega)) := List.getElem?_eq_getElem (by omega)
          generalize S[j]'(by omega) = s at hs
          obtain ⟨c0, hr⟩ := hS.keep hb j s hs
          have hle := catL_le S (j + 1)
          rw [hL] at hle
          have hcs := Lib.hid (catL_succ hs)
          rw [catL_succ hs, List.length_append] at hle
          have hsz := hb.size
          go_wp2_with (at_builtin; refine app_cs rfl _ _ rfl w.heap.size _ _ _ _ ho rfl w.heap.size _ _ _ s.l rfl rfl ?hc hr ?hn ?hb ?_)
          case hc => simp
          case hn => omega
          case hb => exact hb.size
          intro A2 c2 w2 ho2 hg2
          have hb2 := below_gr hb hb.size ho (Nat.le_refl _) hg2
          go_wp2
          go_roundw
          case rel =>
            refine ⟨j + 1, A2, c2, by omega, by go_num, ?_, ?_, hb2⟩
            · rw [hcs.out, List.length_append]
            · rw [hcs.out, List.length_append]; exact ho2
          case measure => simp [intOf]; omega
        · obtain rfl : j = k := by omega
          rw [show catL S j = L by rw [← hL, hm]] at ho ⊢
          go_wp2
          go_ret
          exact ⟨A1, c1, rfl, ho, hb⟩

set_option maxRecDepth 100000 in
set_option maxHeartbeats 4000000 in
theorem ipeel_c (A : Option Addr) (c : Nat) (l : List Cd) (k : Int) (w : World) (hA : RdC w w.heap.size A l) (hp : pv l = true) (hcap : l.length ≤ c) :
    Calls Try.prog 57 #[.slice A l.length c, .int .i64 k] w (fun e w' => (peelOk l k = true ∧ RetCb w (peelOut l k.toNat) true e w') ∨ (peelOk l k = false ∧ Below w.heap.size w w' ∧ ∃ v, e = .returned (.tuple #[v, .bool false]))) := by
  have h40 := (pv_iff.1 hp).1
  have q1 : IntKind.i64.wrap ((l.length : Int) - 1) = (l.length : Int) - 1 := IntWalk.i64_in _ (by omega)
  cases hin : inR k 0 ((l.length : Int) - 1) with
  | false =>
    have hk := Lib.hid (show peelOk l k = false by simp [peelOk, hin])
    go_enter Try.func57, Try.ntmps57
    go_wp2_with fail
    refine (within_c k 0 ((l.length : Int) - 1) w).mono ?_
    rintro e w4 ⟨rfl, rfl⟩
    rw [hin]
    go_wp2
    go_ret2
    exact .inr ⟨hk.out, Below.refl _ _, _, rfl⟩
  | true =>
    obtain ⟨n, rfl⟩ : ∃ n : Nat, k = (n : Int) := ⟨k.toNat, by have := (inR_iff.1 hin).1; omega⟩
    have hn : n < l.length := by have := (inR_iff.1 hin).2; omega
    have q2 : (0 : Int) ≤ (n : Int) := by omega
    have q3 : (n : Int) < (l.length : Int) := by omega
    obtain ⟨b, off, x, rfl, hbB, hx, c0, c1, c2, c3⟩ := hA.at_ hn
    have hcd := cdAt_get hx
    have HX := Lib.hid hx
    have HIN := Lib.hid hin
    clear hx
    cases e13 : x.op == 13 with
    | false =>
      have hk := Lib.hid (show peelOk l n = false by simp [peelOk, HIN.out, hcd, e13])
      go_enter Try.func57, Try.ntmps57
      go_wp2_with fail
      refine (within_c n 0 ((l.length : Int) - 1) w).mono ?_
      rintro e w4 ⟨rfl, rfl⟩
      rw [HIN.out]
      clear hin
      go_wp2
      go_ret2
      exact .inr ⟨hk.out, Below.refl _ _, _, rfl⟩
    | true =>
      have hk := Lib.hid (show peelOk l n = pv (peelOut l n) by simp [peelOk, HIN.out, hcd, e13])
      have hop : opB x = true := by simp [opB, beq_iff_eq.1 e13]
      obtain ⟨he1, he2, he3⟩ := pEnd_bound hp HX.out hop
      have HO := Lib.hid (show peelOut l n = l.take n ++ [cIf x.a] ++ bodyL l n ++ (if 1 < x.b then [cLoop x.a (x.b - 1)] ++ bodyL l n ++ [cEnd] else []) ++ l.drop (pEnd l n) by simp [peelOut, hcd])
      generalize hend : pEnd l n = m at HO he1 he2 he3
      have HB := Lib.hid (show bodyL l n = (l.drop (n + 1)).take (m - (n + 1)) by simp [bodyL, hend])
      have hop2 := Lib.hid hop
      have hcd2 := Lib.hid hcd
      clear hend hop hcd
      go_enter Try.func57, Try.ntmps57
      go_wp2_with fail
      refine (within_c n 0 ((l.length : Int) - 1) w).mono ?_
      rintro e w4 ⟨rfl, rfl⟩
      rw [HIN.out]
      clear hin
      go_wp2_with fail
      refine (blocks_c _ c l w hA (by omega) (pv_all hp)).mono ?_
      rintro e w1 ⟨hb1, hcase⟩
      rcases hcase with ⟨_, rfl, ga, oth, en, As, cs, hW, hP⟩ | ⟨hp2, _⟩
      case inr => exact absurd (pv_iff.1 hp).2 hp2
      have hclo := hP.clo n hn (by rw [hcd2.out]; exact hop2.out) (by simp)
      have hen : en n = (m : Int) := by rw [hclo] at he1; exact he1
      obtain ⟨hga1, hga2⟩ := hW.blk n hn (by rw [hcd2.out]; exact hop2.out)
      have hown := (OR.at0 hW.own).1 n (.pointer (some ⟨ga n, 0, none⟩)) (by
        rw [ownRow_get _ _ _ _ hn, if_pos hn]
        simp [ownV, ownP, hcd2.out, hop2.out, ptrV])
      have hbe := cell_of_heap hga2 2
      simp only [hen] at hbe
      replace hbe : w1.cell? ⟨ga n, 2, none⟩ = some (.int .i64 m) := hbe
      obtain ⟨-, d0, d1, d2, d3⟩ := (hA.below hb1).at0 HX.out
      have hs1 := hb1.size
      have hgal : ga n < w1.heap.size := lt_of_block hga2
      have hsz := hW.siz
      clear c0 c1 c2 c3 hclo hga1 hga2 hW hP he1 hen
      generalize ga n = gn at *
      go_wp2_with fail
      go_region_held3 (fun w' => w'.cell? ⟨w.heap.size + 1, n, none⟩ = some (.pointer (some ⟨gn, 0, none⟩)) ∧ w'.cell? ⟨gn, 2, none⟩ = some (.int .i64 m) ∧ w'.cell? ⟨b, off + n * 4, none⟩ = some (.int .i64 x.op) ∧ w'.cell? ⟨b, off + n * 4 + 1, none⟩ = some (.int .i64 x.a) ∧ w'.cell? ⟨b, off + n * 4 + 2, none⟩ = some (.int .i64 x.b) ∧ w'.cell? ⟨b, off + n * 4 + 3, none⟩ = some (.int .i64 x.c))
        (go_keep) (fail)
      clear hown hbe d0 d1 d2 d3
      obtain ⟨t0, t1, t2, t3⟩ := cd_cells w1 x 32
      have hb2 := (hb1.alloc hs1 (.cells #[.int .i64 x.op, .int .i64 x.a, .int .i64 x.b, .int .i64 x.c] 32)).drew
      have hz2 : w1.heap.size < (w1.alloc (.cells #[.int .i64 x.op, .int .i64 x.a, .int .i64 x.b, .int .i64 x.c] 32)).drew.heap.size := by simp
      replace t1 : (w1.alloc (.cells #[.int .i64 x.op, .int .i64 x.a, .int .i64 x.b, .int .i64 x.c] 32)).drew.cell? ⟨w1.heap.size, 1, none⟩ = some (.int .i64 x.a) := t1
      replace t2 : (w1.alloc (.cells #[.int .i64 x.op, .int .i64 x.a, .int .i64 x.b, .int .i64 x.c] 32)).drew.cell? ⟨w1.heap.size, 2, none⟩ = some (.int .i64 x.b) := t2
      clear t0 t3
      generalize (w1.alloc (.cells #[.int .i64 x.op, .int .i64 x.a, .int .i64 x.b, .int .i64 x.c] 32)).drew = w2 at *
      have hA2 := hA.below hb2
      have hs2 := hb2.size
      generalize w1.heap.size = gt at *
      clear hb1 hs1 hsz hgal
      have q5 : IntKind.i64.wrap ((n : Int) + 1) = (n : Int) + 1 := IntWalk.i64_in _ (by omega)
      have q6 : (0 : Int) ≤ (n : Int) + 1 := by omega
      have q7 : (n : Int) + 1 ≤ (m : Int) := by omega
      have q8 : (m : Int) ≤ (c : Int) := by omega
      have q9 : ((n : Int) + 1).toNat = n + 1 := by omega
      have q4 : (n : Int) ≤ (c : Int) := by omega
      have hS1 := Lib.hid (show SlAt ((w2.alloc (.cells #[.int .i64 11, .int .i64 x.a, .int .i64 0, .int .i64 0] 32)).alloc (.cells #[.slice (some ⟨b, off, none⟩) n c, .slice (some ⟨w2.heap.size, 0, none⟩) 1 1, .slice (some ⟨b, off + (n + 1) * 4, none⟩) (m - (n + 1)) (c - (n + 1))] 23)).drew (w2.heap.size + 1) [⟨⟨b, off, none⟩, c, l.take n⟩, ⟨⟨w2.heap.size, 0, none⟩, 1, [cIf x.a]⟩, ⟨⟨b, off + (n + 1) * 4, none⟩, c - (n + 1), (l.drop (n + 1)).take (m - (n + 1))⟩] by
        have hbx := ((hb2.alloc hs2 (.cells #[.int .i64 11, .int .i64 x.a, .int .i64 0, .int .i64 0] 32)).alloc (by simp; omega) (.cells #[.slice (some ⟨b, off, none⟩) n c, .slice (some ⟨w2.heap.size, 0, none⟩) 1 1, .slice (some ⟨b, off + (n + 1) * 4, none⟩) (m - (n + 1)) (c - (n + 1))] 23)).drew
        have hAx := (hA.below hbx).more hbx.size
        refine SlAt.of (by have := heap_alloc_new (w2.alloc (.cells #[.int .i64 11, .int .i64 x.a, .int .i64 0, .int .i64 0] 32)) (.cells #[.slice (some ⟨b, off, none⟩) n c, .slice (some ⟨w2.heap.size, 0, none⟩) 1 1, .slice (some ⟨b, off + (n + 1) * 4, none⟩) (m - (n + 1)) (c - (n + 1))] 23); simp only [World.size_alloc] at this; exact this) ?_ ?_
        · have e1 : (l.take n).length = n := by simp; omega
          have e2 : ((l.drop (n + 1)).take (m - (n + 1))).length = m - (n + 1) := by simp; omega
          simp only [List.map_cons, List.map_nil, e1, e2]
          rfl
        · intro s hs
          simp only [List.mem_cons, List.not_mem_nil, or_false] at hs
          rcases hs with rfl | rfl | rfl
          · have := hAx.sub 0 n (by omega)
            simpa using this
          · refine RdC.one (x := cIf x.a) (t := 32) ?_
            exact (Below.heap_alloc _ _ _ (by simp)).trans (heap_alloc_new w2 _)
          · exact hAx.sub (n + 1) (m - (n + 1)) (by omega))
      have hL1 : catL [⟨⟨b, off, none⟩, c, l.take n⟩, ⟨⟨w2.heap.size, 0, none⟩, 1, [cIf x.a]⟩, ⟨⟨b, off + (n + 1) * 4, none⟩, c - (n + 1), (l.drop (n + 1)).take (m - (n + 1))⟩] 3 = l.take n ++ [cIf x.a] ++ (l.drop (n + 1)).take (m - (n + 1)) := by
        simp [catL]
      generalize hY1 : l.take n ++ [cIf x.a] ++ (l.drop (n + 1)).take (m - (n + 1)) = Y1 at hL1
      have hy1 : Y1.length = m := by rw [← hY1]; simp; omega
      go_wp2_with fail
      go_region_held3 (fun w' => w'.cell? ⟨gt, 1, none⟩ = some (.int .i64 x.a)) (first | go_keep | exact cell_kept hb3 (by assumption))
        ((go_at_call 83; refine (concatC_c (w2.heap.size + 1) _ Y1 0 3 _ hS1.out rfl hL1 (by omega) (by omega) (by omega)).mono ?_; rintro e w3 ⟨A3, c3, rfl, ho3, hb3⟩))
      have hb3a := ((hb2.alloc hs2 (.cells #[.int .i64 11, .int .i64 x.a, .int .i64 0, .int .i64 0] 32)).alloc (by simp; omega) (.cells #[.slice (some ⟨b, off, none⟩) n c, .slice (some ⟨w2.heap.size, 0, none⟩) 1 1, .slice (some ⟨b, off + (n + 1) * 4, none⟩) (m - (n + 1)) (c - (n + 1))] 23)).drew
      have hb3b := (((Below.refl w2.heap.size w2).alloc (Nat.le_refl _) (.cells #[.int .i64 11, .int .i64 x.a, .int .i64 0, .int .i64 0] 32)).alloc (by simp) (.cells #[.slice (some ⟨b, off, none⟩) n c, .slice (some ⟨w2.heap.size, 0, none⟩) 1 1, .slice (some ⟨b, off + (n + 1) * 4, none⟩) (m - (n + 1)) (c - (n + 1))] 23)).drew
      have hw3 := below_trans hb3a (Nat.le_refl _) hb3
      have hw3b := below_trans hb3b (Nat.le_refl _) hb3
      have u1 := cell_kept hw3b t1
      have u2 := cell_kept hw3b t2
      have ho3' : OC w3 w.heap.size A3 Y1.length c3 Y1 := OR.mono ho3 hb3a.size
      obtain ⟨g3, rfl, hg3a, hg3b, -⟩ := OR.at_ ho3' (by omega)
      clear ho3 hb3 hb3a hb3b t1 t2 hS1 hL1 hz2 hA2 hs2 hw3b
      rename_i hh
      clear hh
      have hs3 := hw3.size
      rw [hy1] at ho3'
      by_cases hgt : 1 < x.b
      · have hgf : (1 < x.b) = True := by simp [hgt]
        have hxv := (pv_all hp) x (List.mem_of_getElem? HX.out)
        have hxb : 1 ≤ x.b ∧ x.b ≤ 4 := by
          have h13 := beq_iff_eq.1 e13
          simp [cvOk, h13, inR] at hxv
          omega
        have r1 : IntKind.i64.wrap (x.b - 1) = x.b - 1 := IntWalk.i64_in _ (by omega)
        clear hxv
        have hS2 := Lib.hid (show SlAt (((w3.alloc (.cells #[.int .i64 13, .int .i64 x.a, .int .i64 (x.b - 1), .int .i64 0] 32)).alloc (.cells #[.int .i64 14, .int .i64 0, .int .i64 0, .int .i64 0] 32)).alloc (.cells #[.slice (some ⟨g3, 0, none⟩) m c3, .slice (some ⟨w3.heap.size, 0, none⟩) 1 1, .slice (some ⟨b, off + (n + 1) * 4, none⟩) (m - (n + 1)) (c - (n + 1)), .slice (some ⟨w3.heap.size + 1, 0, none⟩) 1 1] 23)) (w3.heap.size + 2) [⟨⟨g3, 0, none⟩, c3, Y1⟩, ⟨⟨w3.heap.size, 0, none⟩, 1, [cLoop x.a (x.b - 1)]⟩, ⟨⟨b, off + (n + 1) * 4, none⟩, c - (n + 1), (l.drop (n + 1)).take (m - (n + 1))⟩, ⟨⟨w3.heap.size + 1, 0, none⟩, 1, [cEnd]⟩] by
          have hbx := ((hw3.alloc hs3 (.cells #[.int .i64 13, .int .i64 x.a, .int .i64 (x.b - 1), .int .i64 0] 32)).alloc (by simp; omega) (.cells #[.int .i64 14, .int .i64 0, .int .i64 0, .int .i64 0] 32)).alloc (by simp; omega) (.cells #[.slice (some ⟨g3, 0, none⟩) m c3, .slice (some ⟨w3.heap.size, 0, none⟩) 1 1, .slice (some ⟨b, off + (n + 1) * 4, none⟩) (m - (n + 1)) (c - (n + 1)), .slice (some ⟨w3.heap.size + 1, 0, none⟩) 1 1] 23)
          have hAx := (hA.below hbx).more hbx.size
          refine SlAt.of (by have := heap_alloc_new ((w3.alloc (.cells #[.int .i64 13, .int .i64 x.a, .int .i64 (x.b - 1), .int .i64 0] 32)).alloc (.cells #[.int .i64 14, .int .i64 0, .int .i64 0, .int .i64 0] 32)) (.cells #[.slice (some ⟨g3, 0, none⟩) m c3, .slice (some ⟨w3.heap.size, 0, none⟩) 1 1, .slice (some ⟨b, off + (n + 1) * 4, none⟩) (m - (n + 1)) (c - (n + 1)), .slice (some ⟨w3.heap.size + 1, 0, none⟩) 1 1] 23); (try simp only [World.size_alloc] at this); exact this) ?_ ?_
          · have e2 : ((l.drop (n + 1)).take (m - (n + 1))).length = m - (n + 1) := by simp; omega
            have e1 := hy1
            simp only [List.map_cons, List.map_nil, e1, e2]
            try rfl
          · intro s hs
            simp only [List.mem_cons, List.not_mem_nil, or_false] at hs
            rcases hs with rfl | rfl | rfl | rfl
            · rw [← hy1] at ho3'
              exact OC.rd (OR.alloc (OR.alloc (OR.alloc ho3' _) _) _)
            · refine RdC.one (x := cLoop x.a (x.b - 1)) (t := 32) ?_
              exact (Below.heap_alloc _ _ _ (by simp only [World.size_alloc]; omega)).trans ((Below.heap_alloc _ _ _ (by simp only [World.size_alloc]; omega)).trans (heap_alloc_new w3 _))
            · exact hAx.sub (n + 1) (m - (n + 1)) (by omega)
            · refine RdC.one (x := cEnd) (t := 32) ?_
              exact (Below.heap_alloc _ _ _ (by simp only [World.size_alloc]; omega)).trans (by have := heap_alloc_new (w3.alloc (.cells #[.int .i64 13, .int .i64 x.a, .int .i64 (x.b - 1), .int .i64 0] 32)) (.cells #[.int .i64 14, .int .i64 0, .int .i64 0, .int .i64 0] 32); (try simp only [World.size_alloc] at this); exact this))
        have hL2 : catL [⟨⟨g3, 0, none⟩, c3, Y1⟩, ⟨⟨w3.heap.size, 0, none⟩, 1, [cLoop x.a (x.b - 1)]⟩, ⟨⟨b, off + (n + 1) * 4, none⟩, c - (n + 1), (l.drop (n + 1)).take (m - (n + 1))⟩, ⟨⟨w3.heap.size + 1, 0, none⟩, 1, [cEnd]⟩] 4 = Y1 ++ [cLoop x.a (x.b - 1)] ++ (l.drop (n + 1)).take (m - (n + 1)) ++ [cEnd] := by
          simp [catL]
        generalize hY2 : Y1 ++ [cLoop x.a (x.b - 1)] ++ (l.drop (n + 1)).take (m - (n + 1)) ++ [cEnd] = Y2 at hL2
        have hy2 : 0 < Y2.length ∧ Y2.length ≤ 200 := by rw [← hY2]; simp; omega
        have hb4a := ((hw3.alloc hs3 (.cells #[.int .i64 13, .int .i64 x.a, .int .i64 (x.b - 1), .int .i64 0] 32)).alloc (by simp; omega) (.cells #[.int .i64 14, .int .i64 0, .int .i64 0, .int .i64 0] 32)).alloc (by simp; omega) (.cells #[.slice (some ⟨g3, 0, none⟩) m c3, .slice (some ⟨w3.heap.size, 0, none⟩) 1 1, .slice (some ⟨b, off + (n + 1) * 4, none⟩) (m - (n + 1)) (c - (n + 1)), .slice (some ⟨w3.heap.size + 1, 0, none⟩) 1 1] 23)
        go_wp2_with fail
        refine (concatC_c _ _ Y2 0 4 _ hS2.out rfl hL2 (by omega) (by omega) (by omega)).mono ?_
        rintro e w4 ⟨A4, c4, rfl, ho4, hb4⟩
        have hw4 := below_trans hb4a (Nat.le_refl _) hb4
        have ho4' : OC w4 w.heap.size A4 Y2.length c4 Y2 := OR.mono ho4 hb4a.size
        obtain ⟨g4, rfl, hg4a, hg4b, -⟩ := OR.at_ ho4' (by omega)
        have hs4 := hw4.size
        clear ho4 hb4 hb4a hS2 hL2 u1 u2
        have hS9 := Lib.hid (show SlAt (w4.alloc (.cells #[.slice (some ⟨g4, 0, none⟩) Y2.length c4, .slice (some ⟨b, off + m * 4, none⟩) (l.length - m) (c - m)] 23)) (w4.heap.size) [⟨⟨g4, 0, none⟩, c4, Y2⟩, ⟨⟨b, off + m * 4, none⟩, c - m, (l.drop m).take (l.length - m)⟩] by
          have hbx := hw4.alloc hs4 (.cells #[.slice (some ⟨g4, 0, none⟩) Y2.length c4, .slice (some ⟨b, off + m * 4, none⟩) (l.length - m) (c - m)] 23)
          have hAx := (hA.below hbx).more hbx.size
          refine SlAt.of (by have := heap_alloc_new (w4) (.cells #[.slice (some ⟨g4, 0, none⟩) Y2.length c4, .slice (some ⟨b, off + m * 4, none⟩) (l.length - m) (c - m)] 23); (try simp only [World.size_alloc] at this); exact this) ?_ ?_
          · have e1 : Y2.length = Y2.length := rfl
            have e2 : ((l.drop m).take (l.length - m)).length = l.length - m := by simp
            simp only [List.map_cons, List.map_nil, e1, e2]
            try rfl
          · intro s hs
            simp only [List.mem_cons, List.not_mem_nil, or_false] at hs
            rcases hs with rfl | rfl
            · exact OC.rd (OR.alloc ho4' _)
            · exact hAx.sub m (l.length - m) (by omega))
        have hX : catL [⟨⟨g4, 0, none⟩, c4, Y2⟩, ⟨⟨b, off + m * 4, none⟩, c - m, (l.drop m).take (l.length - m)⟩] 2 = peelOut l n := by
          rw [HO.out, HB.out, if_pos hgt, ← hY2, ← hY1]
          simp [catL, List.take_of_length_le]
        have hpl := peelOut_len l n
        have hpp : 0 < (peelOut l n).length := by rw [← hX]; simp [catL]; omega
        have hbA := hw4.alloc hs4 (.cells #[.slice (some ⟨g4, 0, none⟩) Y2.length c4, .slice (some ⟨b, off + m * 4, none⟩) (l.length - m) (c - m)] 23)
        go_wp2_with fail
        refine (concatC_c _ _ (peelOut l n) 0 2 _ hS9.out rfl hX hpp (by omega) (by omega)).mono ?_
        rintro e w9 ⟨A9, c9, rfl, ho9, hb9⟩
        have hw9 := below_trans hbA (Nat.le_refl _) hb9
        have ho9' : OC w9 w.heap.size A9 (peelOut l n).length c9 (peelOut l n) := OR.mono ho9 hbA.size
        clear ho9 hb9 hbA hS9 hX
        go_wp2_with fail
        refine (iProgramValid_c A9 c9 (peelOut l n) w9 (OC.rd ho9') (by omega)).mono ?_
        rintro e w10 ⟨rfl, hb10⟩
        have hw10 := below_trans hw9 (Nat.le_refl _) hb10
        have ho10 := OR.below ho9' hb10 (Nat.le_refl _)
        go_wp2
        go_ret2
        cases hpp2 : pv (peelOut l n) with
        | false => exact .inr ⟨hk.out.trans hpp2, hw10, _, rfl⟩
        | true => exact .inl ⟨hk.out.trans hpp2, RetCb.of ho10 hw10⟩
      · skip
        have hS9 := Lib.hid (show SlAt (w3.alloc (.cells #[.slice (some ⟨g3, 0, none⟩) m c3, .slice (some ⟨b, off + m * 4, none⟩) (l.length - m) (c - m)] 23)) (w3.heap.size) [⟨⟨g3, 0, none⟩, c3, Y1⟩, ⟨⟨b, off + m * 4, none⟩, c - m, (l.drop m).take (l.length - m)⟩] by
          have hbx := hw3.alloc hs3 (.cells #[.slice (some ⟨g3, 0, none⟩) m c3, .slice (some ⟨b, off + m * 4, none⟩) (l.length - m) (c - m)] 23)
          have hAx := (hA.below hbx).more hbx.size
          refine SlAt.of (by have := heap_alloc_new (w3) (.cells #[.slice (some ⟨g3, 0, none⟩) m c3, .slice (some ⟨b, off + m * 4, none⟩) (l.length - m) (c - m)] 23); (try simp only [World.size_alloc] at this); exact this) ?_ ?_
          · have e1 : Y1.length = m := hy1
            have e2 : ((l.drop m).take (l.length - m)).length = l.length - m := by simp
            simp only [List.map_cons, List.map_nil, e1, e2]
            try rfl
          · intro s hs
            simp only [List.mem_cons, List.not_mem_nil, or_false] at hs
            rcases hs with rfl | rfl
            · rw [← hy1] at ho3'
              exact (OC.rd (OR.alloc ho3' _))
            · exact hAx.sub m (l.length - m) (by omega))
        have hX : catL [⟨⟨g3, 0, none⟩, c3, Y1⟩, ⟨⟨b, off + m * 4, none⟩, c - m, (l.drop m).take (l.length - m)⟩] 2 = peelOut l n := by
          rw [HO.out, HB.out, if_neg hgt, ← hY1]
          simp [catL, List.take_of_length_le]
        have hpl := peelOut_len l n
        have hpp : 0 < (peelOut l n).length := by rw [← hX]; simp [catL]; omega
        have hbA := hw3.alloc hs3 (.cells #[.slice (some ⟨g3, 0, none⟩) m c3, .slice (some ⟨b, off + m * 4, none⟩) (l.length - m) (c - m)] 23)
        go_wp2_with fail
        refine (concatC_c _ _ (peelOut l n) 0 2 _ hS9.out rfl hX hpp (by omega) (by omega)).mono ?_
        rintro e w9 ⟨A9, c9, rfl, ho9, hb9⟩
        have hw9 := below_trans hbA (Nat.le_refl _) hb9
        have ho9' : OC w9 w.heap.size A9 (peelOut l n).length c9 (peelOut l n) := OR.mono ho9 hbA.size
        clear ho9 hb9 hbA hS9 hX
        go_wp2_with fail
        refine (iProgramValid_c A9 c9 (peelOut l n) w9 (OC.rd ho9') (by omega)).mono ?_
        rintro e w10 ⟨rfl, hb10⟩
        have hw10 := below_trans hw9 (Nat.le_refl _) hb10
        have ho10 := OR.below ho9' hb10 (Nat.le_refl _)
        go_wp2
        go_ret2
        cases hpp2 : pv (peelOut l n) with
        | false => exact .inr ⟨hk.out.trans hpp2, hw10, _, rfl⟩
        | true => exact .inl ⟨hk.out.trans hpp2, RetCb.of ho10 hw10⟩

end Go.Proofs.Ytoiihjbdcjllbaa
