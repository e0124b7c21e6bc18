/- Part 2 of what the claim needs. -/
import Derived.Test.YtelbfeidpcojmaaRg1
import Derived.StillTailTactics
import Derived.Deep.RegionWith
import Derived.Laws.AppendOwnNone
import Derived.Deep.Cut
import Derived.Handy
import Derived.Deep.CutRange
import Derived.Deep.Draws
import Derived.Maps.RangeWalk
import Derived.WalkSpells
namespace Go.Proofs.Ytelbfeidpcojmaa
open Go.RowKit
set_option linter.unusedVariables false
set_option linter.unusedSimpArgs false

def cdEq (x y : Cd) : Bool := x.op == y.op && (x.a == y.a && (x.b == y.b && x.c == y.c))

theorem eqCode_c (x y : Cd) (w : World) :
    Calls Try.prog 53 #[x.val, y.val] w fun e w' => e = .returned (.bool (cdEq x y)) ∧ Below w.heap.size w w' := by
  obtain ⟨o, a, b, c⟩ := x
  obtain ⟨o2, a2, b2, c2⟩ := y
  unfold Cd.val
  go_enter Try.func53, Try.ntmps53
  go_wp2
  all_goals go_ret
  all_goals refine ⟨retb ?_, (by repeat (first | exact Below.refl _ _ | assumption | refine Below.alloc ?_ (by simp <;> omega) _ | refine Below.setCell ?_ (by simp <;> omega) _ | refine Below.drew ?_))⟩
  all_goals (unfold cdEq; simp_all; done)

theorem toCode_c (x : Cd) (w : World) :
    Calls Try.prog 42 #[x.val] w fun e w' => e = .returned x.val ∧ Below w.heap.size w w' := by
  obtain ⟨o, a, b, c⟩ := x
  unfold Cd.val
  go_enter Try.func42, Try.ntmps42
  go_wp2
  exact bodyPost_ret (v := .agg #[.int .i64 o, .int .i64 a, .int .i64 b, .int .i64 c]) (by simp [results, Try.results42, go_sem]) rfl ⟨rfl, (by repeat (first | exact Below.refl _ _ | assumption | refine Below.alloc ?_ (by simp <;> omega) _ | refine Below.setCell ?_ (by simp <;> omega) _ | refine Below.drew ?_))⟩

theorem szCodeS_c (A : Option Addr) (n c : Nat) (left : Int) (w : World) (hn : n ≤ 9223372036854775807) (h1 : 0 ≤ left) (h2 : left ≤ 100000000) :
    Calls Try.prog 8 #[.slice A n c, .int .i64 left] w fun e w' => e = .returned (.int .i64 (if left - n < 0 then -1 else left - n)) ∧ w = w' := by
  by_cases h : left - n < 0
  all_goals
    go_enter Try.func8, Try.ntmps8
    go_wp2
    go_ret
    exact ⟨reti (by simp [h]), rfl⟩

def cdsEq : List Cd → List Cd → Bool
  | [], [] => true
  | x :: l, y :: m => cdEq x y && cdsEq l m
  | _, _ => false

theorem cdsEq_len : ∀ (l m : List Cd), l.length ≠ m.length → cdsEq l m = false
  | [], [], h => absurd rfl h
  | [], _ :: _, _ => rfl
  | _ :: _, [], _ => rfl
  | x :: l, y :: m, h => by
    have := cdsEq_len l m (by simpa using h)
    simp [cdsEq, this]

theorem cdsEq_step {l m : List Cd} {k : Nat} {x y : Cd} (hx : l[k]? = some x) (hy : m[k]? = some y) : cdsEq (l.drop k) (m.drop k) = (cdEq x y && cdsEq (l.drop (k + 1)) (m.drop (k + 1))) := by
  obtain ⟨h1, rfl⟩ := List.getElem?_eq_some_iff.1 hx
  obtain ⟨h2, rfl⟩ := List.getElem?_eq_some_iff.1 hy
  rw [List.drop_eq_getElem_cons h1, List.drop_eq_getElem_cons h2]
  rfl

set_option maxRecDepth 100000 in
set_option maxHeartbeats 800000 in
theorem eqCodeS_c (A A2 : Option Addr) (c c2 : Nat) (l m : List Cd) (w : World) (hA : RdC w w.heap.size A l) (hA2 : RdC w w.heap.size A2 m) (hl : l.length ≤ 1000000000000) (hm : m.length ≤ 1000000000000) :
    Calls Try.prog 14 #[.slice A l.length c, .slice A2 m.length c2] w fun e w' => e = .returned (.bool (cdsEq l m)) ∧ Below w.heap.size w w' := by
  by_cases hlen : l.length = m.length
  · rw [← hlen]
    have HL := Lib.hid hlen
    clear hlen
    go_enter Try.func14, Try.ntmps14
    go_wp2
    go_loopw [5] (fun i wr => ∃ k : Nat, k ≤ l.length ∧ i = .int .i64 k ∧ Hid (cdsEq l m = cdsEq (l.drop k) (m.drop k)) ∧ Below w.heap.size w wr) (fun i _ => l.length - (intOf i).toNat)
    case atStart => exact ⟨0, Nat.zero_le _, rfl, Lib.hid rfl, Below.refl _ _⟩
    case round =>
      obtain ⟨k, hk, rfl, HE, hb⟩ := hrel
      by_cases hlt : k < l.length
      · obtain ⟨b, off, x, rfl, hbB, hx, c0, c1, c2', c3⟩ := (hA.below hb).at_ hlt
        obtain ⟨b2, off2, y, rfl, hbB2, hy, d0, d1, d2, d3⟩ := (hA2.below hb).at_ (by have := HL.out; omega : k < m.length)
        have HX := Lib.hid hx
        have HY := Lib.hid hy
        clear hx hy
        go_wp2_with fail
        go_still_tail 8, (by kernel_rfl)
        go_wp2_with (go_at_call 53; refine (eqCode_c x y _).mono ?_; rintro e w1 ⟨rfl, hb1⟩)
        · have he : cdEq x y = false := by simpa using ‹(!cdEq x y) = true›
          go_ret
          exact ⟨retb (by rw [HE.out, cdsEq_step HX.out HY.out, he]; rfl), hb.drew.trans (hb1.mono hb.size)⟩
        · have he : cdEq x y = true := by simpa using ‹(!cdEq x y) = false›
          go_roundw
          case rel => exact ⟨k + 1, by omega, by go_num, Lib.hid (by rw [HE.out, cdsEq_step HX.out HY.out, he]; rfl), hb.drew.trans (hb1.mono hb.size)⟩
          case measure => simp [intOf]; omega
      · go_wp2
        go_ret
        refine ⟨retb ?_, hb⟩
        obtain rfl : k = l.length := by omega
        rw [HE.out, List.drop_length, List.drop_of_length_le (by have := HL.out; omega)]
        rfl
  · go_enter Try.func14, Try.ntmps14
    go_wp2
    go_ret
    exact ⟨retb (cdsEq_len l m hlen).symm, (by repeat (first | exact Below.refl _ _ | assumption | refine Below.alloc ?_ (by simp <;> omega) _ | refine Below.setCell ?_ (by simp <;> omega) _ | refine Below.drew ?_))⟩

/-- m consecutive numbers from k on. -/
def marks (k : Int) (m : Nat) : List Value := (List.range m).map fun (j : Nat) => Value.int .i64 (k + (j : Int))

theorem marks_length (k : Int) (m : Nat) : (marks k m).length = m := by simp [marks]
theorem marks_get (k : Int) (m j : Nat) (h : j < m) : (marks k m)[j]? = some (.int .i64 (k + j)) := by simp [marks, h]

/-- What a row holds after its first m cells have been marked. -/
def marked (k : Int) (m : Nat) (xs : List Value) : List Value := marks k m ++ xs.drop m
theorem marked_zero (k : Int) (xs : List Value) : marked k 0 xs = xs := by simp [marked, marks]
theorem marked_all (k : Int) (xs : List Value) : marked k xs.length xs = marks k xs.length := by simp [marked]
theorem marked_length (k : Int) (m : Nat) (xs : List Value) (h : m ≤ xs.length) : (marked k m xs).length = xs.length := by
  simp [marked, marks_length]; omega
theorem marked_set (k : Int) (m : Nat) (xs : List Value) (h : m < xs.length) : (marked k m xs).set m (.int .i64 (k + m)) = marked k (m + 1) xs := by
  apply List.ext_getElem?
  intro i
  rw [List.getElem?_set, marked_length k m xs (by omega)]
  simp only [marked]
  by_cases hi : m = i
  · subst hi
    rw [if_pos rfl, if_pos h, List.getElem?_append_left (by rw [marks_length]; omega), marks_get _ _ _ (by omega)]
  · rw [if_neg hi]
    by_cases hlt : i < m
    · rw [List.getElem?_append_left (by rw [marks_length]; omega), List.getElem?_append_left (by rw [marks_length]; omega), marks_get _ _ _ hlt, marks_get _ _ _ (by omega)]
    · rw [List.getElem?_append_right (by rw [marks_length]; omega), List.getElem?_append_right (by rw [marks_length]; omega), List.getElem?_drop, List.getElem?_drop]
      congr 1
      simp only [marks_length]
      omega

theorem grown_set {w w1 : World} {g : Nat} (h : w.grownBy w1 (some g)) (j : Nat) (u : Value) : w.grownBy (w1.setCell ⟨g, j, none⟩ u) (some g) :=
  ⟨h.os, h.tape, h.output, by simpa [World.setCell] using h.size, fun k hk hne => (Below.heap_setCell w1 _ u k (fun e => hne (by subst e; rfl))).trans (h.block k hk hne)⟩
theorem grown_refl (w : World) (row : Option Nat) : w.grownBy w row := ⟨rfl, rfl, rfl, Nat.le_refl _, fun _ _ _ => rfl⟩

theorem own_cell {w : World} {base : Nat} {e : TypeId} {size g n cap : Nat} {xs : List Value} (h : w.ownsRow base e size (.slice (some ⟨g, 0, none⟩) n cap) n xs) (j : Nat) (hj : j < n * size) : ∃ u, w.cell? ⟨g, j, none⟩ = some u := by
  rw [h.cellAt j hj]
  exact ⟨xs[j]'(by rw [h.1]; exact hj), List.getElem?_eq_getElem (by rw [h.1]; exact hj)⟩

set_option maxRecDepth 100000 in
set_option maxHeartbeats 800000 in
theorem markIntS_c (A : Option Addr) (n c base : Nat) (e : TypeId) (k0 : Int) (xs : List Value) (w : World) (hown : w.ownsRow base e 1 (.slice A n c) n xs) (hn : n ≤ 1000000000000) (hk0 : 0 ≤ k0) (hk1 : k0 ≤ 1000000000000) :
    Calls Try.prog 16 #[.slice A n c, .int .i64 k0] w fun r w' => r = .returned (.int .i64 (k0 + n)) ∧ w'.ownsRow base e 1 (.slice A n c) n (marks k0 n) ∧ w.grownBy w' (Value.ownBlock (.slice A n c)) := by
  have hxs : xs.length = n := by simpa using hown.1
  go_enter Try.func16, Try.ntmps16
  go_wp2
  go_loopw [1, 5] (fun m i wr => ∃ k : Nat, k ≤ n ∧ i = .int .i64 k ∧ m = .int .i64 (k0 + k) ∧ wr.ownsRow base e 1 (.slice A n c) n (marked k0 k xs) ∧ w.grownBy wr (Value.ownBlock (.slice A n c))) (fun _ i _ => n - (intOf i).toNat)
  case atStart => exact ⟨0, Nat.zero_le _, rfl, by go_num, by rw [marked_zero]; exact hown, grown_refl _ _⟩
  case round =>
    obtain ⟨k, hk, rfl, rfl, ho, hg⟩ := hrel
    by_cases hlt : k < n
    · obtain ⟨g, cap, hA, _, _⟩ := ho.form (by omega)
      injection hA with hA _ hc
      subst hA hc
      obtain ⟨u0, hu0⟩ := own_cell ho k (by omega)
      have hf0 := ho.frozenAt k
      have HX := Lib.hid hxs
      clear hxs
      go_wp2
      go_roundw
      case rel =>
        refine ⟨k + 1, by omega, by go_num, by go_num, ?_, grown_set hg _ _⟩
        have := (ho.stored k (.int .i64 (k0 + k))).1
        rw [marked_set _ _ _ (by have := HX.out; omega)] at this
        exact this
      case measure => simp [intOf]; omega
    · obtain rfl : k = n := by omega
      go_wp2
      go_ret
      refine ⟨rfl, ?_, hg⟩
      have := marked_all k0 xs
      rw [hxs] at this
      rw [← this]
      exact ho

set_option maxRecDepth 100000 in
set_option maxHeartbeats 800000 in
theorem markCodeS_c (A : Option Addr) (n c base : Nat) (e : TypeId) (k0 : Int) (xs : List Value) (w : World) (hown : w.ownsRow base e 4 (.slice A n c) n xs) (hn : n ≤ 1000000000000) (hk0 : 0 ≤ k0) (hk1 : k0 ≤ 1000000000000) :
    Calls Try.prog 15 #[.slice A n c, .int .i64 k0] w fun r w' => r = .returned (.int .i64 (k0 + 4 * n)) ∧ w'.ownsRow base e 4 (.slice A n c) n (marks k0 (n * 4)) ∧ w.grownBy w' (Value.ownBlock (.slice A n c)) := by
  have hxs : xs.length = n * 4 := hown.1
  go_enter Try.func15, Try.ntmps15
  go_wp2
  go_loopw [1, 5] (fun m i wr => ∃ k : Nat, k ≤ n ∧ i = .int .i64 k ∧ m = .int .i64 (k0 + 4 * k) ∧ wr.ownsRow base e 4 (.slice A n c) n (marked k0 (k * 4) xs) ∧ w.grownBy wr (Value.ownBlock (.slice A n c))) (fun _ i _ => n - (intOf i).toNat)
  case atStart => exact ⟨0, Nat.zero_le _, rfl, by go_num, by rw [Nat.zero_mul, marked_zero]; exact hown, grown_refl _ _⟩
  case round =>
    obtain ⟨k, hk, rfl, rfl, ho, hg⟩ := hrel
    by_cases hlt : k < n
    · obtain ⟨g, cap, hA, _, _⟩ := ho.form (by omega)
      injection hA with hA _ hc
      subst hA hc
      obtain ⟨u0, hu0⟩ := own_cell ho (k * 4) (by omega)
      obtain ⟨u1, hu1⟩ := own_cell ho (k * 4 + 1) (by omega)
      obtain ⟨u2, hu2⟩ := own_cell ho (k * 4 + 2) (by omega)
      obtain ⟨u3, hu3⟩ := own_cell ho (k * 4 + 3) (by omega)
      have hf0 := ho.frozenAt (k * 4)
      have hf1 := ho.frozenAt (k * 4 + 1)
      have hf2 := ho.frozenAt (k * 4 + 2)
      have hf3 := ho.frozenAt (k * 4 + 3)
      have HX := Lib.hid hxs
      clear hxs
      go_wp2
      go_roundw
      case rel =>
        refine ⟨k + 1, by omega, by go_num, by go_num, ?_, by repeat (first | exact hg | apply grown_set)⟩
        have h1 := ((((((ho.stored (k * 4) (.int .i64 (k0 + (k * 4 : Nat)))).1).stored (k * 4 + 1) (.int .i64 (k0 + (k * 4 + 1 : Nat)))).1.stored (k * 4 + 2) (.int .i64 (k0 + (k * 4 + 2 : Nat)))).1).stored (k * 4 + 3) (.int .i64 (k0 + (k * 4 + 3 : Nat)))).1
        have hx := HX.out
        rw [marked_set _ _ _ (by omega), marked_set _ _ _ (by omega), marked_set _ _ _ (by omega), marked_set _ _ _ (by omega)] at h1
        rw [show (k + 1) * 4 = k * 4 + 3 + 1 from by omega]
        rw [show k0 + 4 * (k : Int) + 1 + 1 + 1 = k0 + (k * 4 + 3 : Nat) from by omega, show k0 + 4 * (k : Int) + 1 + 1 = k0 + (k * 4 + 2 : Nat) from by omega, show k0 + 4 * (k : Int) + 1 = k0 + (k * 4 + 1 : Nat) from by omega, show k0 + 4 * (k : Int) = k0 + (k * 4 : Nat) from by omega]
        exact h1
      case measure => simp [intOf]; omega
    · obtain rfl : k = n := by omega
      go_wp2
      go_ret
      refine ⟨rfl, ?_, hg⟩
      have := marked_all k0 xs
      rw [hxs] at this
      rw [← this]
      exact ho

theorem Reads.at1 {w : World} {B n : Nat} {A : Option Addr} {xs : List Value} (h : Reads w B 1 A n xs) {k : Nat} (hk : k < n) :
    ∃ b off u, A = some ⟨b, off, none⟩ ∧ b < B ∧ xs[k]? = some u ∧ w.cell? ⟨b, off + k, none⟩ = some u := by
  obtain ⟨b, off, e, hb, hc⟩ := h.2 (by omega)
  have hl : k < xs.length := by have := h.1; omega
  exact ⟨b, off, xs[k], e, hb, List.getElem?_eq_getElem hl, hc k _ (List.getElem?_eq_getElem hl)⟩

set_option maxRecDepth 100000 in
set_option maxHeartbeats 800000 in
theorem heldIntS_c (A : Option Addr) (n c B : Nat) (k0 : Int) (w : World) (hr : Reads w B 1 A n (marks k0 n)) (hn : n ≤ 1000000000000) (hk0 : 0 ≤ k0) (hk1 : k0 ≤ 1000000000000) :
    Calls Try.prog 17 #[.slice A n c, .int .i64 k0] w fun r w' => r = .returned (.int .i64 (k0 + n)) ∧ Below w.heap.size w w' := by
  go_enter Try.func17, Try.ntmps17
  go_wp2
  go_loopw [1, 5] (fun m i wr => ∃ k : Nat, k ≤ n ∧ i = .int .i64 k ∧ m = .int .i64 (k0 + k) ∧ (∀ p, wr.cell? p = w.cell? p) ∧ Below w.heap.size w wr) (fun _ i _ => n - (intOf i).toNat)
  case atStart => exact ⟨0, Nat.zero_le _, rfl, by go_num, fun _ => rfl, Below.refl _ _⟩
  case round =>
    obtain ⟨k, hk, rfl, rfl, hs, hb⟩ := hrel
    by_cases hlt : k < n
    · obtain ⟨b, off, u, rfl, _, hu, hc⟩ := hr.at1 hlt
      rw [marks_get _ _ _ hlt] at hu
      injection hu with hu
      subst hu
      rw [← hs] at hc
      have HS := Lib.hid hs
      clear hs
      have ht : ((k0 + (k : Int)) != (k0 + (k : Int))) = false := by simp
      go_wp2
      go_roundw
      case rel => exact ⟨k + 1, by omega, by go_num, by go_num, HS.out, hb⟩
      case measure => simp [intOf]; omega
    · obtain rfl : k = n := by omega
      clear hs
      go_wp2
      go_ret
      exact ⟨rfl, hb⟩

def intsEq : List Int → List Int → Bool
  | [], [] => true
  | x :: l, y :: m => x == y && intsEq l m
  | _, _ => false
theorem intsEq_len : ∀ (l m : List Int), l.length ≠ m.length → intsEq l m = false
  | [], [], h => absurd rfl h
  | [], _ :: _, _ => rfl
  | _ :: _, [], _ => rfl
  | x :: l, y :: m, h => by
    have := intsEq_len l m (by simpa using h)
    simp [intsEq, this]
theorem intsEq_refl : ∀ l : List Int, intsEq l l = true
  | [] => rfl
  | x :: l => by simp [intsEq, intsEq_refl l]
theorem cdEq_refl (x : Cd) : cdEq x x = true := by simp [cdEq]
theorem cdsEq_refl : ∀ l : List Cd, cdsEq l l = true
  | [] => rfl
  | x :: l => by simp [cdsEq, cdsEq_refl l, cdEq_refl]
theorem intsEq_step {l m : List Int} {k : Nat} {x y : Int} (hx : l[k]? = some x) (hy : m[k]? = some y) : intsEq (l.drop k) (m.drop k) = (x == y && intsEq (l.drop (k + 1)) (m.drop (k + 1))) := by
  obtain ⟨h1, rfl⟩ := List.getElem?_eq_some_iff.1 hx
  obtain ⟨h2, rfl⟩ := List.getElem?_eq_some_iff.1 hy
  rw [List.drop_eq_getElem_cons h1, List.drop_eq_getElem_cons h2]
  rfl

set_option maxRecDepth 100000 in
set_option maxHeartbeats 800000 in
theorem eqIntS_c (A A2 : Option Addr) (c c2 : Nat) (l m : List Int) (w : World) (hA : RdI w w.heap.size A l) (hA2 : RdI w w.heap.size A2 m) (hl : l.length ≤ 1000000000000) (hm : m.length ≤ 1000000000000) :
    Calls Try.prog 13 #[.slice A l.length c, .slice A2 m.length c2] w fun e w' => e = .returned (.bool (intsEq l m)) ∧ Below w.heap.size w w' := by
  by_cases hlen : l.length = m.length
  · rw [← hlen]
    have HL := Lib.hid hlen
    clear hlen
    go_enter Try.func13, Try.ntmps13
    go_wp2
    go_loopw [5] (fun i wr => ∃ k : Nat, k ≤ l.length ∧ i = .int .i64 k ∧ Hid (intsEq l m = intsEq (l.drop k) (m.drop k)) ∧ Below w.heap.size w wr) (fun i _ => l.length - (intOf i).toNat)
    case atStart => exact ⟨0, Nat.zero_le _, rfl, Lib.hid rfl, Below.refl _ _⟩
    case round =>
      obtain ⟨k, hk, rfl, HE, hb⟩ := hrel
      by_cases hlt : k < l.length
      · obtain ⟨b, off, x, rfl, hbB, hx, c0⟩ := (hA.below hb).at_ hlt
        obtain ⟨b2, off2, y, rfl, hbB2, hy, d0⟩ := (hA2.below hb).at_ (by have := HL.out; omega : k < m.length)
        have HX := Lib.hid hx
        have HY := Lib.hid hy
        clear hx hy
        cases he : x == y with
        | false =>
          have hn : (x != y) = true := by simp [bne, he]
          have HN := Lib.hid he
          clear he
          go_wp2_with fail
          go_quiet (fail)
          go_wp2
          go_ret
          exact ⟨retb (by rw [HE.out, intsEq_step HX.out HY.out, HN.out]; rfl), hb.trans ⟨rfl, rfl, rfl, Nat.le_refl _, fun _ _ => rfl⟩⟩
        | true =>
          have hn : (x != y) = false := by simp [bne, he]
          have HN := Lib.hid he
          clear he
          go_wp2_with fail
          go_quiet (fail)
          go_wp2
          go_roundw
          case rel => exact ⟨k + 1, by omega, by go_num, Lib.hid (by rw [HE.out, intsEq_step HX.out HY.out, HN.out]; rfl), hb.trans ⟨rfl, rfl, rfl, Nat.le_refl _, fun _ _ => rfl⟩⟩
          case measure => simp [intOf]; omega
      · go_wp2
        go_ret
        refine ⟨retb ?_, hb⟩
        obtain rfl : k = l.length := by omega
        rw [HE.out, List.drop_length, List.drop_of_length_le (by have := HL.out; omega)]
        rfl
  · have hne : ((l.length : Int) != (m.length : Int)) = true := by rw [bne_iff_ne]; omega
    go_enter Try.func13, Try.ntmps13
    go_wp2
    go_ret
    exact ⟨retb (intsEq_len l m hlen).symm, (by repeat (first | exact Below.refl _ _ | assumption | refine Below.alloc ?_ (by simp <;> omega) _ | refine Below.setCell ?_ (by simp <;> omega) _ | refine Below.drew ?_))⟩

/-- Replacing element k of a list by the next element of another one. -/
theorem take_set_drop {α : Type} (xs zs : List α) (k : Nat) (x : α) (hx : xs[k]? = some x) (hk : k < zs.length) : (xs.take k ++ zs.drop k).set k x = xs.take (k + 1) ++ zs.drop (k + 1) := by
  obtain ⟨hl, rfl⟩ := List.getElem?_eq_some_iff.1 hx
  have hlen : (xs.take k).length = k := by simp; omega
  rw [List.set_append_right (h := by omega), hlen, Nat.sub_self, List.drop_eq_getElem_cons hk, List.set_cons_zero, List.take_succ_eq_append_getElem hl, List.append_assoc]
  rfl

set_option maxRecDepth 100000 in
set_option maxHeartbeats 800000 in
theorem toCodeS_c (A : Option Addr) (c : Nat) (l : List Cd) (w : World) (hA : RdC w w.heap.size A l) (hl : l.length ≤ 1000000000) :
    Calls Try.prog 10 #[.slice A l.length c] w fun e w' => ∃ A', e = .returned (.slice A' l.length l.length) ∧ OC w' w.heap.size A' l.length l.length l ∧ Below w.heap.size w w' := by
  have hmk := make_code l.length (by omega)
  go_enter Try.func10, Try.ntmps10
  go_wp2
  have hz := zeroRow_size (.agg #[.int .i64 0, .int .i64 0, .int .i64 0, .int .i64 0]) (l.length * 4)
  have ho := OR.lit w w.heap.size 68 4 l.length _ (Nat.le_refl _) (by omega) hz
  generalize zeroRow (.agg #[.int .i64 0, .int .i64 0, .int .i64 0, .int .i64 0]) (l.length * 4) = zr at *
  clear hmk
  go_loopw [4] (fun i wr => ∃ k : Nat, k ≤ l.length ∧ i = .int .i64 k ∧ OR wr w.heap.size 68 4 (some ⟨w.heap.size, 0, none⟩) l.length l.length ((cdsCells l).take (k * 4) ++ zr.toList.drop (k * 4)) ∧ Below w.heap.size w wr) (fun i _ => l.length - (intOf i).toNat)
  case atStart => exact ⟨0, Nat.zero_le _, rfl, by simpa using ho, (Below.refl _ _).alloc (Nat.le_refl _) _⟩
  case round =>
    obtain ⟨k, hk, rfl, ho, hb⟩ := hrel
    by_cases hlt : k < l.length
    · obtain ⟨b, off, x, rfl, hbB, hx, c0, c1, c2, c3⟩ := (hA.below hb).at_ hlt
      have HX := Lib.hid hx
      have HZ := Lib.hid hz
      clear hx hz
      go_wp2_with fail
      refine (toCode_c x _).mono ?_
      rintro e w1 ⟨rfl, hb1⟩
      have ho1 := ho.below hb1 (Nat.le_refl _)
      obtain ⟨u0, hu0⟩ := ho1.some_cell (k * 4) (by omega)
      obtain ⟨u1, hu1⟩ := ho1.some_cell (k * 4 + 1) (by omega)
      obtain ⟨u2, hu2⟩ := ho1.some_cell (k * 4 + 2) (by omega)
      obtain ⟨u3, hu3⟩ := ho1.some_cell (k * 4 + 3) (by omega)
      have hf0 := ho1.at0.2.1 (k * 4)
      have hf1 := ho1.at0.2.1 (k * 4 + 1)
      have hf2 := ho1.at0.2.1 (k * 4 + 2)
      have hf3 := ho1.at0.2.1 (k * 4 + 3)
      clear c0 c1 c2 c3
      unfold Cd.val
      go_wp2
      go_roundw
      case rel =>
        refine ⟨k + 1, by omega, by go_num, ?_, ?_⟩
        · have h1 := ((((((ho1.at0.2.2 (k * 4) (.int .i64 x.op)).at0.2.2 (k * 4 + 1) (.int .i64 x.a))).at0.2.2 (k * 4 + 2) (.int .i64 x.b))).at0.2.2 (k * 4 + 3) (.int .i64 x.c))
          have hx := HX.out
          have hz := HZ.out
          have hcl := cdsCells_length l
          have hzl : zr.toList.length = l.length * 4 := by simpa using hz
          have e0 : (cdsCells l)[k * 4]? = some (.int .i64 x.op) := cdsCells_get l k x hx 0 (by omega)
          have e1 : (cdsCells l)[k * 4 + 1]? = some (.int .i64 x.a) := cdsCells_get l k x hx 1 (by omega)
          have e2 : (cdsCells l)[k * 4 + 2]? = some (.int .i64 x.b) := cdsCells_get l k x hx 2 (by omega)
          have e3 : (cdsCells l)[k * 4 + 3]? = some (.int .i64 x.c) := cdsCells_get l k x hx 3 (by omega)
          rw [take_set_drop _ zr.toList _ _ e0 (by omega), take_set_drop _ zr.toList _ _ e1 (by omega), take_set_drop _ zr.toList _ _ e2 (by omega), take_set_drop _ zr.toList _ _ e3 (by omega)] at h1
          rw [show (k + 1) * 4 = k * 4 + 3 + 1 from by omega]
          exact h1
        · have := hb.trans (hb1.mono hb.size)
          exact (((this.setCell (Nat.le_refl _) _).setCell (Nat.le_refl _) _).setCell (Nat.le_refl _) _).setCell (Nat.le_refl _) _
      case measure => simp [intOf]; omega
    · obtain rfl : k = l.length := by omega
      go_wp2
      go_ret
      refine ⟨_, rfl, ?_, hb⟩
      have hzl : zr.toList.length = l.length * 4 := by simpa using hz
      rw [List.take_of_length_le (by rw [cdsCells_length]; omega), List.drop_of_length_le (by omega), List.append_nil] at ho
      exact ho


theorem OR.cap_ {w : World} {base e size n c : Nat} {A : Option Addr} {xs : List Value} (h : OR w base e size A n c xs) : n ≤ c := by
  rcases h.2 with ⟨hv, rfl⟩ | ⟨g, cap, cur, hv, _, _, hnc, _⟩
  · exact Nat.zero_le _
  · injection hv with _ _ hc
    omega
theorem OR.heap_ {w : World} {base e size n c g : Nat} {xs : List Value} (h : OR w base e size (some ⟨g, 0, none⟩) n c xs) : ∃ cur, w.heap[g]? = some (.cells cur e (0, 0)) := by
  rcases h.2 with ⟨hv, _⟩ | ⟨g', cap, cur, hv, _, hg, _⟩
  · cases hv
  · injection hv with hA _ _
    injection hA with hA
    injection hA with hA
    subst hA
    exact ⟨cur, hg⟩

theorem below_app {B base e size n c : Nat} {A : Option Addr} {xs : List Value} {w0 w1 w2 : World} {o : Obj} (hb : Below B w0 w1) (hB : B ≤ w1.heap.size) (ho : OR w1 base e size A n c xs) (hbase : B ≤ base)
    (hg : (w1.alloc o).grownBy w2 (Value.ownBlock (.slice A n c))) : Below B w0 w2 :=
  (hb.alloc hB o).grown hg (by simp; omega) (fun k h => Nat.le_trans hbase (ho.block k h).1)

section
variable {w : World} {ops : Array Oper} {rest : List Oper} {o : Oper} {a : Act} {Q : Exit → Act → World → Prop}
/-- append of a whole own row (nil, empty or not). -/
theorem app_own (t e : TypeId) (z : Value) (size bytes : Nat) (ht : Try.prog.underlying t = some (.slice e)) (hinfo : (Try.prog.info? e).map (fun i => (i.zero, i.size, i.bytes)) = some (some z, size, bytes)) (hzs : z.cells.size = size) (hsz : 0 < size) (hby : bytes ≤ 64)
    (hgd : o.guard = none) (s x : Operand) (ho : o.op = .call { callee := .builtin .append, args := #[s, x], argTypes := #[t, t] })
    (base : Nat) (A : Option Addr) (n c : Nat) (xs : List Value) (hown : OR w base e size A n c xs) (hs : a.eval s = .slice A n c)
    (base2 : Nat) (A2 : Option Addr) (m cc : Nat) (news : List Value) (hsrc : OR w base2 e size A2 m cc news) (hx : a.eval x = .slice A2 m cc)
    (h1 : ∀ u ∈ news, u.oneCell' = true) (hn : n + m ≤ 1000000000000) (hbase : base ≤ w.heap.size)
    (hK : ∀ A' c' w', OR w' base e size A' (n + m) c' (xs ++ news) → w.grownBy w' (Value.ownBlock (.slice A n c)) → wpList Try.prog ops Q rest (a.put o.dst (.slice A' (n + m) c')) w') :
    wpList Try.prog ops Q (o :: rest) a w := by
  rcases hsrc.2 with ⟨hv, rfl⟩ | ⟨g, cap, cur, hv, _⟩
  · injection hv with hA _ hc
    subst hA hc
    obtain ⟨i0, hi, hz0, hz1, hz2⟩ := info_parts hinfo
    have hnews : news = [] := List.eq_nil_of_length_eq_zero (by simpa using hsrc.1)
    subst hnews
    refine wpList_append_own_none hgd s x t ho base e i0 size ht hi _ _ _ hs hown hx ?_
    exact hK A c w (by simpa using hown) (grown_refl _ _)
  · injection hv with hA _ hc
    subst hA hc
    exact app_row t e z size bytes ht hinfo hzs hsz hby hgd s x ho base A n c xs hown hs g m cc news hx hsrc.1 hsrc.at0.1 h1 hn hbase hK
end

/-- Every block of w is as it was; there may be new ones. -/
structure Ext (w w' : World) : Prop where
  os : w'.os = w.os
  tape : w'.tape = w.tape
  output : w'.output = w.output
  size : w.heap.size ≤ w'.heap.size
  block : ∀ k, k < w.heap.size → w'.heap[k]? = w.heap[k]?
theorem Ext.of_below {w w' : World} (h : Below w.heap.size w w') : Ext w w' := ⟨h.os, h.tape, h.output, h.size, h.block⟩
theorem Ext.below {w w' : World} (h : Ext w w') : Below w.heap.size w w' := ⟨h.os, h.tape, h.output, h.size, h.block⟩
theorem Ext.refl (w : World) : Ext w w := ⟨rfl, rfl, rfl, Nat.le_refl _, fun _ _ => rfl⟩
theorem Ext.trans {a b c : World} (h : Ext a b) (k : Ext b c) : Ext a c :=
  ⟨k.os.trans h.os, k.tape.trans h.tape, k.output.trans h.output, Nat.le_trans h.size k.size, fun i hi => (k.block i (Nat.lt_of_lt_of_le hi h.size)).trans (h.block i hi)⟩
theorem Ext.alloc (w : World) (o : Obj) : Ext w (w.alloc o) := ⟨rfl, rfl, rfl, by simp, fun k hk => Below.heap_alloc w o k hk⟩
theorem Ext.drew (w : World) : Ext w w.drew := ⟨rfl, rfl, rfl, Nat.le_refl _, fun _ _ => rfl⟩
/-- Writes into new blocks alone. -/
theorem Ext.grown {a b c : World} {row : Option Nat} (h : Ext a b) (hg : b.grownBy c row) (hr : ∀ k, row = some k → a.heap.size ≤ k) : Ext a c :=
  ⟨hg.os.trans h.os, hg.tape.trans h.tape, hg.output.trans h.output, Nat.le_trans h.size hg.size,
    fun k hk => (hg.block k (Nat.lt_of_lt_of_le hk h.size) (fun e => by have := hr k e.symm; omega)).trans (h.block k hk)⟩
theorem Ext.heap_ {w w' : World} (h : Ext w w') {g : Nat} {o : Obj} (hg : w.heap[g]? = some o) : w'.heap[g]? = some o :=
  (h.block g (lt_of_block hg)).trans hg
theorem OR.ext {w w' : World} {base e size n c : Nat} {A : Option Addr} {xs : List Value} (h : OR w base e size A n c xs) (hx : Ext w w') : OR w' base e size A n c xs :=
  h.keep fun k hk _ => hx.block k hk
theorem Ext.cell {w w' : World} (h : Ext w w') {p : Addr} {v : Value} (hc : w.cell? p = some v) : w'.cell? p = some v := cell_kept h.below hc

theorem cell_of_heap {w : World} {g : Nat} {cs : Array Value} {t : TypeId} (h : w.heap[g]? = some (.cells cs t (0, 0))) (i : Nat) : w.cell? ⟨g, i, none⟩ = cs[i]? := cell_of_row w g i cs t (0, 0) h
theorem free_of_heap {w : World} {g : Nat} {cs : Array Value} {t : TypeId} (h : w.heap[g]? = some (.cells cs t (0, 0))) (i : Nat) : w.frozen? ⟨g, i, none⟩ = false := by simp [World.frozen?, h]
theorem heap_set_same {w : World} {g : Nat} {cs : Array Value} {t : TypeId} (h : w.heap[g]? = some (.cells cs t (0, 0))) (i : Nat) (u : Value) : (w.setCell ⟨g, i, none⟩ u).heap[g]? = some (.cells (cs.setIfInBounds i u) t (0, 0)) := by
  simp [World.setCell, Array.getElem?_modify, h]
theorem heap_set_other {w : World} {g b : Nat} (hne : b ≠ g) (i : Nat) (u : Value) : (w.setCell ⟨g, i, none⟩ u).heap[b]? = w.heap[b]? := Below.heap_setCell w _ u b hne
theorem size_set (w : World) (p : Addr) (u : Value) : (w.setCell p u).heap.size = w.heap.size := by simp [World.setCell]
theorem OR.set_other {w : World} {base e size n c : Nat} {A : Option Addr} {xs : List Value} (h : OR w base e size A n c xs) {p : Addr} (hne : Value.ownBlock (.slice A n c) ≠ some p.block) (u : Value) : OR (w.setCell p u) base e size A n c xs :=
  ownsRow_setCell_other h hne u

theorem RdC.at0 {w : World} {B b off : Nat} {l : List Cd} (h : RdC w B (some ⟨b, off, none⟩) l) {k : Nat} {x : Cd} (hx : l[k]? = some x) :
    b < B ∧ w.cell? ⟨b, off + k * 4, none⟩ = some (.int .i64 x.op) ∧ w.cell? ⟨b, off + k * 4 + 1, none⟩ = some (.int .i64 x.a) ∧
      w.cell? ⟨b, off + k * 4 + 2, none⟩ = some (.int .i64 x.b) ∧ w.cell? ⟨b, off + k * 4 + 3, none⟩ = some (.int .i64 x.c) := by
  have hk : k < l.length := (List.getElem?_eq_some_iff.1 hx).1
  obtain ⟨b', off', x', e, hb, hx', h0, h1, h2, h3⟩ := h.at_ hk
  injection e with e
  injection e with e1 e2
  subst e1 e2
  rw [hx] at hx'
  injection hx' with hx'
  subst hx'
  exact ⟨hb, h0, h1, h2, h3⟩

theorem OI.len {w : World} {base n c : Nat} {A : Option Addr} {l : List Int} (h : OI w base A n c l) : l.length = n := by
  have := OR.len h; simpa using this
theorem OC.len {w : World} {base n c : Nat} {A : Option Addr} {l : List Cd} (h : OC w base A n c l) : l.length = n := by
  have := OR.len h; rw [cdsCells_length] at this; omega
theorem OI.rd {w : World} {base c : Nat} {A : Option Addr} {l : List Int} (h : OI w base A l.length c l) : RdI w w.heap.size A l := OR.reads h
theorem OC.rd {w : World} {base c : Nat} {A : Option Addr} {l : List Cd} (h : OC w base A l.length c l) : RdC w w.heap.size A l := OR.reads h
theorem OI.empty_ (w : World) (B : Nat) (hB : B ≤ w.heap.size) : OI (w.alloc (.cells #[] 3)) B (some ⟨w.heap.size, 0, none⟩) 0 0 [] :=
  (OR.lit w w.heap.size _ 1 0 #[] (Nat.le_refl _) (by omega) rfl).mono hB
theorem OC.empty_ (w : World) (B : Nat) (hB : B ≤ w.heap.size) : OC (w.alloc (.cells #[] 68)) B (some ⟨w.heap.size, 0, none⟩) 0 0 [] :=
  (OR.lit w w.heap.size _ 4 0 #[] (Nat.le_refl _) (by omega) rfl).mono hB
theorem OI.nil_ (w : World) (B : Nat) : OI w B none 0 0 [] := OR.nil_ _ _ _ _
theorem OC.nil_ (w : World) (B : Nat) : OC w B none 0 0 [] := OR.nil_ _ _ _ _

/-- A row of the call's own, or an empty slice whatever its address. -/
def OwC (w : World) (base : Nat) (A : Option Addr) (n c : Nat) (l : List Cd) : Prop := (n = 0 ∧ l = [] ∧ (A = none → c = 0)) ∨ OC w base A n c l
def OwI (w : World) (base : Nat) (A : Option Addr) (n c : Nat) (l : List Int) : Prop := (n = 0 ∧ l = []) ∨ OI w base A n c l
theorem OwC.len {w : World} {base n c : Nat} {A : Option Addr} {l : List Cd} (h : OwC w base A n c l) : l.length = n := by
  rcases h with ⟨h1, h2, -⟩ | h
  · rw [h1, h2]; rfl
  · exact OC.len h
theorem OwI.len {w : World} {base n c : Nat} {A : Option Addr} {l : List Int} (h : OwI w base A n c l) : l.length = n := by
  rcases h with ⟨h1, h2⟩ | h
  · rw [h1, h2]; rfl
  · exact OI.len h
theorem OwC.below {w w' : World} {base n c B : Nat} {A : Option Addr} {l : List Cd} (h : OwC w base A n c l) (hb : Below B w w') (hB : w.heap.size ≤ B) : OwC w' base A n c l :=
  h.imp id (fun h => OR.below h hb hB)
theorem OwI.below {w w' : World} {base n c B : Nat} {A : Option Addr} {l : List Int} (h : OwI w base A n c l) (hb : Below B w w') (hB : w.heap.size ≤ B) : OwI w' base A n c l :=
  h.imp id (fun h => OR.below h hb hB)
theorem OwC.rd {w : World} {base c : Nat} {A : Option Addr} {l : List Cd} (h : OwC w base A l.length c l) : RdC w w.heap.size A l := by
  rcases h with ⟨h1, h2, -⟩ | h
  · subst h2; exact Reads.none_.keep fun _ _ => rfl
  · exact OC.rd h
theorem OwI.rd {w : World} {base c : Nat} {A : Option Addr} {l : List Int} (h : OwI w base A l.length c l) : RdI w w.heap.size A l := by
  rcases h with ⟨h1, h2⟩ | h
  · subst h2; exact Reads.none_.keep fun _ _ => rfl
  · exact OI.rd h
theorem OC.nilc {w : World} {base n c : Nat} {A : Option Addr} {l : List Cd} (h : OC w base A n c l) (e : A = none) : c = 0 := by
  subst e
  rcases h.2 with ⟨hv, _⟩ | ⟨g, cap, cur, hv, _⟩
  · injection hv with _ _ h3
  · injection hv with h1
    cases h1
theorem OwC.nilc {w : World} {base n c : Nat} {A : Option Addr} {l : List Cd} (h : OwC w base A n c l) (e : A = none) : c = 0 := by
  rcases h with ⟨_, _, h⟩ | h
  · exact h e
  · exact h.nilc e
/-- A new row of numbers is returned. -/
def RetI (w : World) (l : List Int) (e : Ending) (w' : World) : Prop :=
  ∃ A c, e = .returned (.slice A l.length c) ∧ OwI w' w.heap.size A l.length c l ∧ Below w.heap.size w w'
/-- A new row of instructions is returned. -/
def RetC (w : World) (l : List Cd) (e : Ending) (w' : World) : Prop :=
  ∃ A c, e = .returned (.slice A l.length c) ∧ OwC w' w.heap.size A l.length c l ∧ Below w.heap.size w w'
theorem RetI.of {w w' : World} {l : List Int} {A : Option Addr} {n c : Nat} (h : OI w' w.heap.size A n c l) (hb : Below w.heap.size w w') : RetI w l (.returned (.slice A n c)) w' := by
  obtain rfl := OI.len h
  exact ⟨A, c, rfl, .inr h, hb⟩
theorem RetC.of {w w' : World} {l : List Cd} {A : Option Addr} {n c : Nat} (h : OC w' w.heap.size A n c l) (hb : Below w.heap.size w w') : RetC w l (.returned (.slice A n c)) w' := by
  obtain rfl := OC.len h
  exact ⟨A, c, rfl, .inr h, hb⟩
theorem RetC.mono {w w0 w' : World} {l : List Cd} {e : Ending} (h : RetC w0 l e w') (hb : Below w.heap.size w w0) : RetC w l e w' := by
  obtain ⟨A, c, he, ho, hb2⟩ := h
  exact ⟨A, c, he, ho.imp id (fun h => OR.mono h hb.size), below_trans hb (Nat.le_refl _) hb2⟩
theorem RetI.mono {w w0 w' : World} {l : List Int} {e : Ending} (h : RetI w0 l e w') (hb : Below w.heap.size w w0) : RetI w l e w' := by
  obtain ⟨A, c, he, ho, hb2⟩ := h
  exact ⟨A, c, he, ho.imp id (fun h => OR.mono h hb.size), below_trans hb (Nat.le_refl _) hb2⟩

/-- The four cells of an instruction, in a new block. -/
theorem cd_cells (w : World) (x : Cd) (t : TypeId) :
    (w.alloc (.cells #[.int .i64 x.op, .int .i64 x.a, .int .i64 x.b, .int .i64 x.c] t)).cell? ⟨w.heap.size, 0, none⟩ = some (.int .i64 x.op) ∧
    (w.alloc (.cells #[.int .i64 x.op, .int .i64 x.a, .int .i64 x.b, .int .i64 x.c] t)).cell? ⟨w.heap.size, 1, none⟩ = some (.int .i64 x.a) ∧
    (w.alloc (.cells #[.int .i64 x.op, .int .i64 x.a, .int .i64 x.b, .int .i64 x.c] t)).cell? ⟨w.heap.size, 2, none⟩ = some (.int .i64 x.b) ∧
    (w.alloc (.cells #[.int .i64 x.op, .int .i64 x.a, .int .i64 x.b, .int .i64 x.c] t)).cell? ⟨w.heap.size, 3, none⟩ = some (.int .i64 x.c) := by
  refine ⟨?_, ?_, ?_, ?_⟩ <;> simp [go_sem]

theorem OI.at0 {w : World} {base g n c : Nat} {r : List Int} (h : OI w base (some ⟨g, 0, none⟩) n c r) :
    (∀ j x, r[j]? = some x → w.cell? ⟨g, j, none⟩ = some (.int .i64 x)) ∧ (∀ j, w.frozen? ⟨g, j, none⟩ = false) ∧ (∀ j x, OI (w.setCell ⟨g, j, none⟩ (.int .i64 x)) base (some ⟨g, 0, none⟩) n c (r.set j x)) := by
  have h0 := OR.at0 h
  refine ⟨fun j x hx => h0.1 j _ (by rw [List.getElem?_map, hx]; rfl), h0.2.1, fun j x => ?_⟩
  have := h0.2.2 j (.int .i64 x)
  unfold OI
  rwa [← List.map_set] at this

theorem type_ne {w : World} {a b : Nat} {ca cb : Array Value} {s t : TypeId} (ha : w.heap[a]? = some (.cells ca s (0, 0))) (hb : w.heap[b]? = some (.cells cb t (0, 0))) (h : s ≠ t) : a ≠ b := by
  intro e
  subst e
  rw [ha] at hb
  injection hb with hb
  injection hb with _ hb
  exact h hb

theorem own_ne {w : World} {e size n c : Nat} {A : Option Addr} {xs : List Value} {base b : Nat} {cb : Array Value} {t : TypeId} (h : OR w base e size A n c xs) (hb : w.heap[b]? = some (.cells cb t (0, 0))) (hne : e ≠ t) : Value.ownBlock (.slice A n c) ≠ some b := by
  intro hk
  rcases h.2 with ⟨hv, _⟩ | ⟨g, cap, cur, hv, _, hg, _⟩
  · rw [hv] at hk; simp [Value.ownBlock] at hk
  · rw [hv] at hk
    simp [Value.ownBlock] at hk
    subst hk
    exact type_ne hg hb hne rfl

section
variable {P : Program} {ops rest : List Oper} {o : Oper} {Q : Exit → Act → World → Prop} {a : Act} {w : World}
theorem wp_store_row {K : Act → World → Prop} (ty : TypeId) (p x : Operand) (ho : o.op = .store ty p x) (b : Nat) (hp : a.eval p = .pointer (some ⟨b, 0, none⟩)) (cs old : Array Value) (t : TypeId)
    (hx : a.eval x = .agg cs) (hh : w.heap[b]? = some (.cells old t (0, 0))) (hi : (P.info? ty).map (·.size) = some cs.size) (hs : old.size = cs.size) (h1 : cs.all (·.oneCell') = true)
    (hK : K (a.put o.dst undef) (w.setRow b cs)) : Oper.wp P o a w K Q := by
  have hrun := run_storeVar_row (P := P) w b t ty old cs hh hi hs h1
  unfold Oper.wp
  simp [execOp, ho, Instr.storeAt, Instr.sureAddr, hp, hx, hrun, Result.andThen]
  exact hK
theorem wpList_load_row {opa : Array Oper} (hg : o.guard = none) (ty : TypeId) (p : Operand) (ho : o.op = .load ty p) (b : Nat) (hp : a.eval p = .pointer (some ⟨b, 0, none⟩)) (cs : Array Value) (t : TypeId) (fr : Nat × Nat)
    (hh : w.heap[b]? = some (.cells cs t fr)) (d : TypeDesc) (hu : P.underlying ty = some d) (hd : (match d with | .struct _ | .array _ _ => true | _ => false) = true) (hi : (P.info? ty).map (·.size) = some cs.size)
    (hK : wpList P opa Q rest (a.put o.dst (.agg cs)) w) : wpList P opa Q (o :: rest) a w := by
  refine wpList_step fun K hk => ?_
  rw [if_pos (by simp [Region.wanted, hg])]
  have hrun := run_loadVar_row (P := P) w b t ty cs fr d hh hu hd hi
  unfold Oper.wp
  simp [execOp, ho, Instr.loadAt, Instr.sureAddr, hp, hrun, Result.andThen]
  exact hk _ _ hK
theorem wpList_store_row {opa : Array Oper} (hg : o.guard = none) (ty : TypeId) (p x : Operand) (ho : o.op = .store ty p x) (b : Nat) (hp : a.eval p = .pointer (some ⟨b, 0, none⟩)) (cs old : Array Value) (t : TypeId)
    (hx : a.eval x = .agg cs) (hh : w.heap[b]? = some (.cells old t (0, 0))) (hi : (P.info? ty).map (·.size) = some cs.size) (hs : old.size = cs.size) (h1 : cs.all (·.oneCell') = true)
    (hK : wpList P opa Q rest (a.put o.dst undef) (w.setRow b cs)) : wpList P opa Q (o :: rest) a w := by
  refine wpList_step fun K hk => ?_
  rw [if_pos (by simp [Region.wanted, hg])]
  have hrun := run_storeVar_row (P := P) w b t ty old cs hh hi hs h1
  unfold Oper.wp
  simp [execOp, ho, Instr.storeAt, Instr.sureAddr, hp, hx, hrun, Result.andThen]
  exact hk _ _ hK
theorem heap_setRow_same {b : Nat} {cs old : Array Value} {t : TypeId} (hh : w.heap[b]? = some (.cells old t (0, 0))) : (w.setRow b cs).heap[b]? = some (.cells cs t (0, 0)) := by
  simp [World.setRow, Array.getElem?_modify, hh]
theorem heap_setRow_other {b j : Nat} {cs : Array Value} (hne : j ≠ b) : (w.setRow b cs).heap[j]? = w.heap[j]? := by
  have : ¬ b = j := fun e => hne e.symm
  simp [World.setRow, Array.getElem?_modify, this]
theorem size_setRow (b : Nat) (cs : Array Value) : (w.setRow b cs).heap.size = w.heap.size := by simp [World.setRow]
theorem grown_cell1 (w : World) (b i : Nat) (v : Value) : w.grownBy (w.setCell ⟨b, i, none⟩ v) (some b) :=
  ⟨rfl, rfl, rfl, by rw [size_set]; exact Nat.le_refl _, fun k hk hne => heap_set_other (fun e => hne (by rw [e])) i v⟩
theorem grown_setRow (b : Nat) (cs : Array Value) : w.grownBy (w.setRow b cs) (some b) :=
  ⟨rfl, rfl, rfl, by rw [size_setRow]; exact Nat.le_refl _, fun k hk hne => heap_setRow_other (fun e => hne (by rw [e]))⟩
theorem grown_then {a b c : World} {row : Option Nat} {k : Nat} (h : a.grownBy b row) (h2 : b.grownBy c (some k)) (hk : a.heap.size ≤ k) : a.grownBy c row :=
  ⟨h2.os.trans h.os, h2.tape.trans h.tape, h2.output.trans h.output, Nat.le_trans h.size h2.size, fun j hj hn => (h2.block j (by have := h.size; omega) (fun e => by cases e; omega)).trans (h.block j hj hn)⟩
/-- A function's end: the result, a struct, is copied out of its variable. -/
theorem fin_row {opa : Array Oper} {o1 o2 : Oper} (ty : TypeId) (p1 p2 x : Operand) (ho1 : o1.op = .load ty p1) (ho2 : o2.op = .store ty p2 x) (g1 : o1.guard = none) (g2 : o2.guard = none)
    (b r : Nat) (cs old : Array Value) (t t2 : TypeId) (hh : w.heap[b]? = some (.cells cs t (0, 0))) (hr : w.heap[r]? = some (.cells old t2 (0, 0))) (hp1 : a.eval p1 = .pointer (some ⟨b, 0, none⟩)) (hp2 : (a.put o1.dst (.agg cs)).eval p2 = .pointer (some ⟨r, 0, none⟩))
    (hx : (a.put o1.dst (.agg cs)).eval x = .agg cs) (d : TypeDesc) (hu : P.underlying ty = some d) (hd : (match d with | .struct _ | .array _ _ => true | _ => false) = true) (hi : (P.info? ty).map (·.size) = some cs.size)
    (hs : old.size = cs.size) (h1 : cs.all (·.oneCell') = true) (hK : Q .normal ((a.put o1.dst (.agg cs)).put o2.dst undef) (w.setRow r cs)) : wpList P opa Q [o1, o2] a w :=
  wpList_load_row g1 ty p1 ho1 b hp1 cs t (0, 0) hh d hu hd hi (wpList_store_row g2 ty p2 x ho2 r hp2 cs old t2 hx hr hi hs h1 (wpList_nil hK))
theorem ret_cell {fn : Func} {R : Ending → World → Prop} {t : Tmp} {ty : TypeId} (h : fn.results = #[.cell t ty]) (b : Nat) (ht : a.tmps.getD t undef = .pointer (some ⟨b, 0, none⟩)) (cs : Array Value) (tt : TypeId) (fr : Nat × Nat)
    (hh : w.heap[b]? = some (.cells cs tt fr)) (d : TypeDesc) (hu : P.underlying ty = some d) (hd : (match d with | .struct _ | .array _ _ => true | _ => false) = true) (hi : (P.info? ty).map (·.size) = some cs.size)
    (hf : a.defers = []) (hR : R (.returned (.agg cs)) w) : bodyPost P fn R .ret a w := by
  have hrun := run_loadVar_row (P := P) w b tt ty cs fr d hh hu hd hi
  refine bodyPost_ret ?_ hf hR
  have ht2 : a.tmps[t]?.getD undef = .pointer (some ⟨b, 0, none⟩) := by simpa using ht
  simp [results, h, ht2, asAddr, hrun, Result.andThen]
end

section
variable {w : World} {ops : Array Oper} {rest : List Oper} {o : Oper} {a : Act} {Q : Exit → Act → World → Prop}
set_option maxRecDepth 100000 in
/-- append of elements that lie in a slice that is read. -/
theorem app_rd (t e : TypeId) (z : Value) (size bytes : Nat) (ht : Try.prog.underlying t = some (.slice e)) (hinfo : (Try.prog.info? e).map (fun i => (i.zero, i.size, i.bytes)) = some (some z, size, bytes)) (hzs : z.cells.size = size) (hsz : 0 < size) (hby : bytes ≤ 64)
    (hgd : o.guard = none) (s x : Operand) (ho : o.op = .call { callee := .builtin .append, args := #[s, x], argTypes := #[t, t] })
    (base : Nat) (A : Option Addr) (n c : Nat) (xs : List Value) (hown : OR w base e size A n c xs) (hs : a.eval s = .slice A n c)
    (B : Nat) (ad : Addr) (m cc : Nat) (news : List Value) (hx : a.eval x = .slice (some ad) m cc) (hrd : Reads w B size (some ad) m news)
    (h1 : ∀ u ∈ news, u.oneCell' = true) (hn : n + m ≤ 1000000000000) (hbase : base ≤ w.heap.size)
    (hK : ∀ A' c' w', OR w' base e size A' (n + m) c' (xs ++ news) → w.grownBy w' (Value.ownBlock (.slice A n c)) → wpList Try.prog ops Q rest (a.put o.dst (.slice A' (n + m) c')) w') :
    wpList Try.prog ops Q (o :: rest) a w := by
  obtain ⟨i0, hi, hz0, hz1, hz2⟩ := info_parts hinfo
  have hb : (n + m) * bytes ≤ 140737488355328 := Nat.le_trans (Nat.mul_le_mul_left _ hby) (by omega)
  refine wpList_append_own _ hgd s x t ho base e i0 z size bytes ht hi hz0 hz1 hz2 hzs hsz _ _ _ hs hown ad m cc news hx hrd.1 ?_ h1 (by unfold maxLen; omega) hb hbase ?_
  · intro j u hu
    rcases Nat.eq_zero_or_pos m with h0 | h0
    · subst h0
      have := hrd.1
      rw [Nat.zero_mul] at this
      rw [List.eq_nil_of_length_eq_zero this] at hu
      simp at hu
    · obtain ⟨b, off, e1, _, hc⟩ := hrd.2 h0
      injection e1 with e1
      subst e1
      rw [add_lit]
      exact hc j u hu
  · intro v' w' hown' hgrow _
    obtain ⟨A', c', rfl, h'⟩ := OR.slice_ hown'
    exact hK A' c' w' h' hgrow
end

theorem ints_one (l : List Int) : ∀ u ∈ l.map (Value.int .i64), u.oneCell' = true := by
  intro u hu
  obtain ⟨x, _, rfl⟩ := List.mem_map.1 hu
  rfl
theorem cds_one (l : List Cd) : ∀ u ∈ cdsCells l, u.oneCell' = true := by
  intro u hu
  simp only [cdsCells, List.mem_flatMap] at hu
  obtain ⟨x, _, hu⟩ := hu
  simp [cdCells] at hu
  rcases hu with rfl | rfl | rfl | rfl <;> rfl

set_option maxRecDepth 100000 in
set_option maxHeartbeats 1000000 in
theorem cloneI_c (A : Option Addr) (c : Nat) (l : List Int) (w : World) (hA : RdI w w.heap.size A l) (hl : l.length ≤ 1000000000) (hc : A = none → c = 0) :
    Calls Try.prog 86 #[.slice A l.length c] w (fun e w' => ∃ A' c', e = .returned (.slice A' l.length c') ∧ OI w' w.heap.size A' l.length c' l ∧ Below w.heap.size w w') := by
  cases A with
  | none =>
    have hl0 : l = [] := by
      rcases Nat.eq_zero_or_pos l.length with h | h
      · exact List.eq_nil_of_length_eq_zero h
      · obtain ⟨b, off, e, _⟩ := hA.2 (by omega); cases e
    subst hl0
    obtain rfl := hc rfl
    have k1 := fun w' : World => Lib.run_eql_slice_nil (P := Try.prog) w' 23 3 none 0 0 0 0 Try.underlying23
    go_enter Try.func86, Try.ntmps86
    go_wp2
    go_ret
    exact ⟨none, 0, rfl, OI.nil_ _ _, (by repeat (first | exact Below.refl _ _ | assumption | refine Below.alloc ?_ (by simp <;> omega) _ | refine Below.setCell ?_ (by simp <;> omega) _ | refine Below.drew ?_))⟩
  | some ad =>
    have k1 := fun w' : World => Lib.run_eql_slice_nil (P := Try.prog) w' 23 3 (some ad) l.length c 0 0 Try.underlying23
    have ho := Lib.hid (OI.empty_ w w.heap.size (Nat.le_refl _))
    have hA2 := Lib.hid (hA.below ((Below.refl w.heap.size w).alloc (Nat.le_refl _) (.cells #[] 3)))
    go_enter Try.func86, Try.ntmps86
    go_wp2_with (at_builtin; refine app_rd 23 3 _ 1 8 Try.underlying23 infoInt rfl (by decide) (by decide) rfl _ _ rfl w.heap.size _ 0 0 _ ho.out rfl w.heap.size ad l.length c _ rfl hA2.out (ints_one l) ?hn ?hb ?_)
    case hn => omega
    case hb => simp
    intro A' c' w2 ho2 hg2
    clear k1
    go_wp2
    go_ret
    refine ⟨A', c', by simp, ?_, ?_⟩
    · exact ho2
    · exact ((Below.refl w.heap.size w).alloc (Nat.le_refl _) _).grown hg2 (by simp) (fun k hk => by simp [Value.ownBlock] at hk; omega)

/-- A new row of instructions and a bool are returned. -/
def RetCb (w : World) (l : List Cd) (b : Bool) (e : Ending) (w' : World) : Prop :=
  ∃ A c, e = .returned (.tuple #[.slice A l.length c, .bool b]) ∧ OC w' w.heap.size A l.length c l ∧ Below w.heap.size w w'
theorem RetCb.of {w w' : World} {l : List Cd} {b : Bool} {A : Option Addr} {n c : Nat} (h : OC w' w.heap.size A n c l) (hb : Below w.heap.size w w') : RetCb w l b (.returned (.tuple #[.slice A n c, .bool b])) w' := by
  obtain rfl := OC.len h
  exact ⟨A, c, rfl, h, hb⟩
theorem OC.ow {w : World} {base n c : Nat} {A : Option Addr} {l : List Cd} (h : OC w base A n c l) : OwC w base A n c l := .inr h
theorem below_gr {B base e size n c : Nat} {A : Option Addr} {xs : List Value} {w0 w1 w2 : World} (hb : Below B w0 w1) (hB : B ≤ w1.heap.size) (ho : OR w1 base e size A n c xs) (hbase : B ≤ base)
    (hg : w1.grownBy w2 (Value.ownBlock (.slice A n c))) : Below B w0 w2 :=
  hb.grown hg hB (fun k h => Nat.le_trans hbase (ho.block k h).1)
theorem nilC {w : World} {B : Nat} {A : Option Addr} {l : List Cd} (h : RdC w B A l) (e : A = none) : l.length = 0 := by
  subst e
  rcases Nat.eq_zero_or_pos l.length with h0 | h0
  · exact h0
  · obtain ⟨b, off, e, _⟩ := h.2 h0
    cases e
/-- A part of a slice that is read. -/
theorem RdC.sub {w : World} {B b off : Nat} {l : List Cd} (h : RdC w B (some ⟨b, off, none⟩) l) (i n : Nat) (hn : i + n ≤ l.length) : RdC w B (some ⟨b, off + i * 4, none⟩) ((l.drop i).take n) := by
  refine ⟨by rw [cdsCells_length], fun hp => ?_⟩
  have hlen : ((l.drop i).take n).length = n := by simp; omega
  have hl0 : 0 < l.length := by omega
  obtain ⟨b', off', e, hb, hc⟩ := h.2 hl0
  injection e with e
  injection e with e1 e2
  subst e1 e2
  refine ⟨b, off + i * 4, rfl, hb, fun j u hu => ?_⟩
  have hj : j < n * 4 := by
    have := (List.getElem?_eq_some_iff.1 hu).1
    rw [cdsCells_length, hlen] at this
    exact this
  have hk : j / 4 < n := by omega
  have hx : l[i + j / 4]? = some (l[i + j / 4]'(by omega)) := List.getElem?_eq_getElem (by omega)
  have hx2 : ((l.drop i).take n)[j / 4]? = some (l[i + j / 4]'(by omega)) := by
    rw [List.getElem?_take, if_pos hk, List.getElem?_drop, hx]
  have q1 := cdsCells_get _ _ _ hx (j % 4) (Nat.mod_lt _ (by decide))
  have q2 := cdsCells_get _ _ _ hx2 (j % 4) (Nat.mod_lt _ (by decide))
  rw [show j / 4 * 4 + j % 4 = j by omega] at q2
  rw [q2, ← q1] at hu
  have := hc _ u hu
  rw [show off + i * 4 + j = off + ((i + j / 4) * 4 + j % 4) by omega]
  exact this
theorem cdAt_get' {l : List Cd} {k : Nat} (h : k < l.length) : l[k]? = some (cdAt l k) := by
  unfold cdAt
  rw [List.getElem?_eq_getElem h]

section
variable {w : World} {ops : Array Oper} {rest : List Oper} {o : Oper} {a : Act} {Q : Exit → Act → World → Prop}
set_option maxRecDepth 100000 in
/-- append of a slice of instructions that is read. -/
theorem app_cs (hgd : o.guard = none) (s x : Operand) (ho : o.op = .call { callee := .builtin .append, args := #[s, x], argTypes := #[26, 26] })
    (base : Nat) (A : Option Addr) (n c : Nat) (xs : List Cd) (hown : OC w base A n c xs) (hs : a.eval s = .slice A n c)
    (B : Nat) (A2 : Option Addr) (m cc : Nat) (news : List Cd) (hx : a.eval x = .slice A2 m cc) (hm : news.length = m) (hc : A2 = none → cc = 0) (hrd : RdC w B A2 news)
    (hn : n + m ≤ 1000000000000) (hbase : base ≤ w.heap.size)
    (hK : ∀ A' c' w', OC w' base A' (n + m) c' (xs ++ news) → w.grownBy w' (Value.ownBlock (.slice A n c)) → wpList Try.prog ops Q rest (a.put o.dst (.slice A' (n + m) c')) w') :
    wpList Try.prog ops Q (o :: rest) a w := by
  cases A2 with
  | none =>
    obtain rfl := hc rfl
    have h0 := nilC hrd rfl
    obtain rfl : m = 0 := by omega
    obtain rfl : news = [] := List.eq_nil_of_length_eq_zero h0
    obtain ⟨i0, hi, hz0, hz1, hz2⟩ := info_parts infoCode
    refine wpList_append_own_none hgd s x 26 ho base 68 i0 4 Try.underlying26 hi _ _ _ hs hown hx ?_
    exact hK A c w (by simpa using hown) (grown_refl _ _)
  | some ad =>
    subst hm
    refine app_rd 26 68 _ 4 32 Try.underlying26 infoCode rfl (by decide) (by decide) hgd s x ho base A n c _ hown hs B ad news.length cc _ hx hrd (cds_one news) hn hbase ?_
    intro A' c' w' h hg
    exact hK A' c' w' (by unfold OC; rw [cdsCells_append]; exact h) hg
end


theorem reads_nil (w : World) (B size : Nat) (A : Option Addr) : Reads w B size A 0 [] := ⟨by simp, fun h => absurd h (by omega)⟩
theorem RdC.nil_ (w : World) (B : Nat) (A : Option Addr) : RdC w B A [] := reads_nil w B 4 A
theorem RdI.nil_ (w : World) (B : Nat) (A : Option Addr) : RdI w B A [] := reads_nil w B 1 A

/-- Some row of the blocks from base on may be written, and new blocks. -/
def Marked (w w' : World) (base n : Nat) (v : Value) : Prop := ∃ row, (∀ k, row = some k → 0 < n ∧ v.ownBlock = some k ∧ base ≤ k ∧ k < w.heap.size) ∧ w.grownBy w' row
theorem Marked.size {base n : Nat} {w w' : World} {v : Value} (h : Marked w w' base n v) : w.heap.size ≤ w'.heap.size := by
  obtain ⟨row, hr, hg⟩ := h
  exact hg.size

theorem Marked.below {B base n : Nat} {w0 w w' : World} {v : Value} (hb : Below B w0 w) (h : Marked w w' base n v) (hB : B ≤ w.heap.size) (hb2 : B ≤ base) : Below B w0 w' := by
  obtain ⟨row, hr, hg⟩ := h
  exact hb.grown hg hB (fun k e => Nat.le_trans hb2 (hr k e).2.2.1)
theorem Marked.ext_row {base m : Nat} {w w' : World} {v : Value} (h : Marked w w' base m v) {base2 e size n c : Nat} {A : Option Addr} {xs : List Value} (ho : OR w base2 e size A n c xs)
    (hd : 0 < m → ∀ k j, v.ownBlock = some k → Value.ownBlock (.slice A n c) = some j → k ≠ j) : OR w' base2 e size A n c xs := by
  obtain ⟨row, hr, hg⟩ := h
  cases hob : Value.ownBlock (.slice A n c) with
  | none => exact OR.kept ho hg (.inl hob)
  | some j =>
    refine OR.kept ho hg (.inr fun e => ?_)
    rw [hob] at e
    obtain ⟨h0, h1, h2, h3⟩ := hr j e.symm
    exact hd h0 j j h1 hob rfl
theorem Marked.extI {base m : Nat} {w w' : World} {v : Value} (h : Marked w w' base m v) {base2 n c : Nat} {A : Option Addr} {l : List Int} (ho : OwI w base2 A n c l)
    (hd : 0 < m → 0 < n → ∀ k j, v.ownBlock = some k → Value.ownBlock (.slice A n c) = some j → k ≠ j) : OwI w' base2 A n c l := by
  by_cases hn : 0 < n
  · exact ho.imp id (fun ho => h.ext_row ho (fun h0 => hd h0 hn))
  · have := ho.len
    exact .inl ⟨by omega, List.eq_nil_of_length_eq_zero (by omega)⟩
theorem OwC.blk {w : World} {base n c : Nat} {A : Option Addr} {l : List Cd} (h : OwC w base A n c l) : 0 < n → ∀ j, Value.ownBlock (.slice A n c) = some j → base ≤ j ∧ j < w.heap.size := by
  intro hn j hj
  rcases h with ⟨h1, _⟩ | h
  · omega
  · exact OR.block h j hj
theorem OwI.blk {w : World} {base n c : Nat} {A : Option Addr} {l : List Int} (h : OwI w base A n c l) : 0 < n → ∀ j, Value.ownBlock (.slice A n c) = some j → base ≤ j ∧ j < w.heap.size := by
  intro hn j hj
  rcases h with ⟨h1, _⟩ | h
  · omega
  · exact OR.block h j hj
/-- Rows that lie one behind the other are different. -/
def Apart (n m : Nat) (u v : Value) : Prop := 0 < n → 0 < m → ∀ k j, u.ownBlock = some k → v.ownBlock = some j → k ≠ j
theorem Apart.mk {n m s t bu bv : Nat} {u v : Value} (hu : 0 < n → ∀ j, u.ownBlock = some j → bu ≤ j ∧ j < s) (hv : 0 < m → ∀ j, v.ownBlock = some j → bv ≤ j ∧ j < t) (h : s ≤ bv) : Apart n m u v := by
  intro h0 h1 k j hk hj
  have := hu h0 k hk
  have := hv h1 j hj
  omega
theorem Apart.symm {n m : Nat} {u v : Value} (h : Apart n m u v) : Apart m n v u := fun h0 h1 k j hk hj e => h h1 h0 j k hj hk e.symm

theorem markC_c (A : Option Addr) (n c base : Nat) (k0 : Int) (l : List Cd) (w : World) (h : OwC w base A n c l) (hn : n ≤ 1000000000000) (hk0 : 0 ≤ k0) (hk1 : k0 ≤ 1000000000000) :
    Calls Try.prog 15 #[.slice A n c, .int .i64 k0] w fun r w' => r = .returned (.int .i64 (k0 + 4 * n)) ∧ Reads w' w'.heap.size 4 A n (marks k0 (n * 4)) ∧ Marked w w' base n (.slice A n c) := by
  rcases Nat.eq_zero_or_pos n with rfl | hpos
  · go_enter Try.func15, Try.ntmps15
    go_wp2
    go_loopw [1, 5] (fun m i wr => i = .int .i64 0 ∧ m = .int .i64 k0 ∧ w = wr) (fun _ _ _ => 0)
    case atStart => exact ⟨rfl, rfl, rfl⟩
    case round =>
      obtain ⟨rfl, rfl, rfl⟩ := hrel
      go_wp2
      go_ret
      exact ⟨reti (by simp), reads_nil _ _ _ _, none, by simp, grown_refl _ _⟩
  · replace h := h.resolve_left (fun e => by omega)
    refine (markCodeS_c A n c base _ k0 _ w h hn hk0 hk1).mono ?_
    rintro e w' ⟨rfl, ho, hg⟩
    have hb := OR.block h
    refine ⟨rfl, Reads.of_own ho, _, fun k hk => ⟨hpos, hk, hb k hk⟩, hg⟩

theorem markI_c (A : Option Addr) (n c base : Nat) (k0 : Int) (l : List Int) (w : World) (h : OwI w base A n c l) (hn : n ≤ 1000000000000) (hk0 : 0 ≤ k0) (hk1 : k0 ≤ 1000000000000) :
    Calls Try.prog 16 #[.slice A n c, .int .i64 k0] w fun r w' => r = .returned (.int .i64 (k0 + n)) ∧ Reads w' w'.heap.size 1 A n (marks k0 n) ∧ Marked w w' base n (.slice A n c) := by
  rcases Nat.eq_zero_or_pos n with rfl | hpos
  · go_enter Try.func16, Try.ntmps16
    go_wp2
    go_loopw [1, 5] (fun m i wr => i = .int .i64 0 ∧ m = .int .i64 k0 ∧ w = wr) (fun _ _ _ => 0)
    case atStart => exact ⟨rfl, rfl, rfl⟩
    case round =>
      obtain ⟨rfl, rfl, rfl⟩ := hrel
      go_wp2
      go_ret
      exact ⟨reti (by simp), reads_nil _ _ _ _, none, by simp, grown_refl _ _⟩
  · replace h := h.resolve_left (fun e => by omega)
    refine (markIntS_c A n c base _ k0 _ w h hn hk0 hk1).mono ?_
    rintro e w' ⟨rfl, ho, hg⟩
    have hb := OR.block h
    refine ⟨rfl, Reads.of_own ho, _, fun k hk => ⟨hpos, hk, hb k hk⟩, hg⟩


set_option maxRecDepth 100000 in
set_option maxHeartbeats 800000 in
theorem toIntS_c (A : Option Addr) (c : Nat) (l : List Int) (w : World) (hA : RdI w w.heap.size A l) (hl : l.length ≤ 1000000000) :
    Calls Try.prog 11 #[.slice A l.length c] w fun e w' => ∃ A', e = .returned (.slice A' l.length l.length) ∧ OI w' w.heap.size A' l.length l.length l ∧ Below w.heap.size w w' := by
  have hmk := make_int l.length (by omega)
  go_enter Try.func11, Try.ntmps11
  go_wp2
  have hz := zeroRow_size (.int .i64 0) l.length
  have ho := OR.lit w w.heap.size 3 1 l.length _ (Nat.le_refl _) (by omega) (hz.trans (by omega))
  generalize zeroRow (.int .i64 0) l.length = zr at *
  clear hmk
  go_loopw [4] (fun i wr => ∃ k : Nat, k ≤ l.length ∧ i = .int .i64 k ∧ OR wr w.heap.size 3 1 (some ⟨w.heap.size, 0, none⟩) l.length l.length ((l.map (Value.int .i64)).take k ++ zr.toList.drop k) ∧ Below w.heap.size w wr) (fun i _ => l.length - (intOf i).toNat)
  case atStart => exact ⟨0, Nat.zero_le _, rfl, by simpa using ho, (Below.refl _ _).alloc (Nat.le_refl _) _⟩
  case round =>
    obtain ⟨k, hk, rfl, ho, hb⟩ := hrel
    by_cases hlt : k < l.length
    · obtain ⟨b, off, x, rfl, hbB, hx, c0⟩ := (hA.below hb).at_ hlt
      have HX := Lib.hid hx
      have HZ := Lib.hid hz
      clear hx hz
      obtain ⟨u0, hu0⟩ := ho.some_cell k (by omega)
      have hf0 := ho.at0.2.1 k
      have hne : ¬ b = w.heap.size := by omega
      go_wp2
      go_roundw
      case rel =>
        refine ⟨k + 1, by omega, by go_num, ?_, hb.setCell (Nat.le_refl _) _⟩
        have h1 := ho.at0.2.2 k (.int .i64 x)
        have hx := HX.out
        have hz := HZ.out
        have hzl : zr.toList.length = l.length := by simpa using hz
        rw [take_set_drop (l.map (Value.int .i64)) zr.toList k (.int .i64 x) (by rw [List.getElem?_map, hx]; rfl) (by omega)] at h1
        exact h1
      case measure => simp [intOf]; omega
    · obtain rfl : k = l.length := by omega
      go_wp2
      go_ret
      refine ⟨_, rfl, ?_, hb⟩
      have hzl : zr.toList.length = l.length := by simpa using hz
      rw [List.take_of_length_le (by simp), List.drop_of_length_le (by omega), List.append_nil] at ho
      exact ho

end Go.Proofs.Ytelbfeidpcojmaa
