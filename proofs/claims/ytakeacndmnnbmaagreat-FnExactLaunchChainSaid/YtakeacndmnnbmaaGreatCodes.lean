/- Contracts of the helpers on lists of instructions. -/
import Derived.Test.YtakeacndmnnbmaaGreatMem
import Derived.StillTailTactics
import Derived.Deep.RegionWith
namespace Go.Proofs.YtakeacndmnnbmaaGreat
open Go.RowKit
set_option linter.unusedVariables false
set_option linter.unusedSimpArgs false

def cdEq (x y : Cd) : Bool := x.op == y.op && (x.a == y.a && (x.b == y.b && x.c == y.c))

theorem eqCode_c (x y : Cd) (w : World) :
    Calls Tryz.prog 38 #[x.val, y.val] w fun e w' => e = .returned (.bool (cdEq x y)) ∧ Below w.heap.size w w' := by
  obtain ⟨o, a, b, c⟩ := x
  obtain ⟨o2, a2, b2, c2⟩ := y
  unfold Cd.val
  go_enter Tryz.func38, Tryz.ntmps38
  go_wp2
  all_goals go_ret
  all_goals refine ⟨retb ?_, (by repeat (first | exact Below.refl _ _ | assumption | refine Below.alloc ?_ (by simp <;> omega) _ | refine Below.setCell ?_ (by simp <;> omega) _ | refine Below.drew ?_))⟩
  all_goals (unfold cdEq; simp_all; done)

theorem toCode_c (x : Cd) (w : World) :
    Calls Tryz.prog 34 #[x.val] w fun e w' => e = .returned x.val ∧ Below w.heap.size w w' := by
  obtain ⟨o, a, b, c⟩ := x
  unfold Cd.val
  go_enter Tryz.func34, Tryz.ntmps34
  go_wp2
  exact bodyPost_ret (v := .agg #[.int .i64 o, .int .i64 a, .int .i64 b, .int .i64 c]) (by simp [results, Tryz.results34, go_sem]) rfl ⟨rfl, (by repeat (first | exact Below.refl _ _ | assumption | refine Below.alloc ?_ (by simp <;> omega) _ | refine Below.setCell ?_ (by simp <;> omega) _ | refine Below.drew ?_))⟩

theorem szCodeS_c (A : Option Addr) (n c : Nat) (left : Int) (w : World) (hn : n ≤ 9223372036854775807) (h1 : 0 ≤ left) (h2 : left ≤ 100000000) :
    Calls Tryz.prog 9 #[.slice A n c, .int .i64 left] w fun e w' => e = .returned (.int .i64 (if left - n < 0 then -1 else left - n)) ∧ w = w' := by
  by_cases h : left - n < 0
  all_goals
    go_enter Tryz.func9, Tryz.ntmps9
    go_wp2
    go_ret
    exact ⟨reti (by simp [h]), rfl⟩

def cdsEq : List Cd → List Cd → Bool
  | [], [] => true
  | x :: l, y :: m => cdEq x y && cdsEq l m
  | _, _ => false

theorem cdsEq_len : ∀ (l m : List Cd), l.length ≠ m.length → cdsEq l m = false
  | [], [], h => absurd rfl h
  | [], _ :: _, _ => rfl
  | _ :: _, [], _ => rfl
  | x :: l, y :: m, h => by
    have := cdsEq_len l m (by simpa using h)
    simp [cdsEq, this]

theorem cdsEq_step {l m : List Cd} {k : Nat} {x y : Cd} (hx : l[k]? = some x) (hy : m[k]? = some y) : cdsEq (l.drop k) (m.drop k) = (cdEq x y && cdsEq (l.drop (k + 1)) (m.drop (k + 1))) := by
  obtain ⟨h1, rfl⟩ := List.getElem?_eq_some_iff.1 hx
  obtain ⟨h2, rfl⟩ := List.getElem?_eq_some_iff.1 hy
  rw [List.drop_eq_getElem_cons h1, List.drop_eq_getElem_cons h2]
  rfl

set_option maxRecDepth 100000 in
set_option maxHeartbeats 800000 in
theorem eqCodeS_c (A A2 : Option Addr) (c c2 : Nat) (l m : List Cd) (w : World) (hA : RdC w w.heap.size A l) (hA2 : RdC w w.heap.size A2 m) (hl : l.length ≤ 1000000000000) (hm : m.length ≤ 1000000000000) :
    Calls Tryz.prog 15 #[.slice A l.length c, .slice A2 m.length c2] w fun e w' => e = .returned (.bool (cdsEq l m)) ∧ Below w.heap.size w w' := by
  by_cases hlen : l.length = m.length
  · rw [← hlen]
    have HL := Lib.hid hlen
    clear hlen
    go_enter Tryz.func15, Tryz.ntmps15
    go_wp2
    go_loopw [5] (fun i wr => ∃ k : Nat, k ≤ l.length ∧ i = .int .i64 k ∧ Hid (cdsEq l m = cdsEq (l.drop k) (m.drop k)) ∧ Below w.heap.size w wr) (fun i _ => l.length - (intOf i).toNat)
    case atStart => exact ⟨0, Nat.zero_le _, rfl, Lib.hid rfl, Below.refl _ _⟩
    case round =>
      obtain ⟨k, hk, rfl, HE, hb⟩ := hrel
      by_cases hlt : k < l.length
      · obtain ⟨b, off, x, rfl, hbB, hx, c0, c1, c2', c3⟩ := (hA.below hb).at_ hlt
        obtain ⟨b2, off2, y, rfl, hbB2, hy, d0, d1, d2, d3⟩ := (hA2.below hb).at_ (by have := HL.out; omega : k < m.length)
        have HX := Lib.hid hx
        have HY := Lib.hid hy
        clear hx hy
        go_wp2_with fail
        go_still_tail 8, (by kernel_rfl)
        go_wp2_with (go_at_call 38; refine (eqCode_c x y _).mono ?_; rintro e w1 ⟨rfl, hb1⟩)
        · have he : cdEq x y = false := by simpa using ‹(!cdEq x y) = true›
          go_ret
          exact ⟨retb (by rw [HE.out, cdsEq_step HX.out HY.out, he]; rfl), hb.drew.trans (hb1.mono hb.size)⟩
        · have he : cdEq x y = true := by simpa using ‹(!cdEq x y) = false›
          go_roundw
          case rel => exact ⟨k + 1, by omega, by go_num, Lib.hid (by rw [HE.out, cdsEq_step HX.out HY.out, he]; rfl), hb.drew.trans (hb1.mono hb.size)⟩
          case measure => simp [intOf]; omega
      · go_wp2
        go_ret
        refine ⟨retb ?_, hb⟩
        obtain rfl : k = l.length := by omega
        rw [HE.out, List.drop_length, List.drop_of_length_le (by have := HL.out; omega)]
        rfl
  · go_enter Tryz.func15, Tryz.ntmps15
    go_wp2
    go_ret
    exact ⟨retb (cdsEq_len l m hlen).symm, (by repeat (first | exact Below.refl _ _ | assumption | refine Below.alloc ?_ (by simp <;> omega) _ | refine Below.setCell ?_ (by simp <;> omega) _ | refine Below.drew ?_))⟩

/-- m consecutive numbers from k on. -/
def marks (k : Int) (m : Nat) : List Value := (List.range m).map fun (j : Nat) => Value.int .i64 (k + (j : Int))

theorem marks_length (k : Int) (m : Nat) : (marks k m).length = m := by simp [marks]
theorem marks_get (k : Int) (m j : Nat) (h : j < m) : (marks k m)[j]? = some (.int .i64 (k + j)) := by simp [marks, h]

/-- What a row holds after its first m cells have been marked. -/
def marked (k : Int) (m : Nat) (xs : List Value) : List Value := marks k m ++ xs.drop m
theorem marked_zero (k : Int) (xs : List Value) : marked k 0 xs = xs := by simp [marked, marks]
theorem marked_all (k : Int) (xs : List Value) : marked k xs.length xs = marks k xs.length := by simp [marked]
theorem marked_length (k : Int) (m : Nat) (xs : List Value) (h : m ≤ xs.length) : (marked k m xs).length = xs.length := by
  simp [marked, marks_length]; omega
theorem marked_set (k : Int) (m : Nat) (xs : List Value) (h : m < xs.length) : (marked k m xs).set m (.int .i64 (k + m)) = marked k (m + 1) xs := by
  apply List.ext_getElem?
  intro i
  rw [List.getElem?_set, marked_length k m xs (by omega)]
  simp only [marked]
  by_cases hi : m = i
  · subst hi
    rw [if_pos rfl, if_pos h, List.getElem?_append_left (by rw [marks_length]; omega), marks_get _ _ _ (by omega)]
  · rw [if_neg hi]
    by_cases hlt : i < m
    · rw [List.getElem?_append_left (by rw [marks_length]; omega), List.getElem?_append_left (by rw [marks_length]; omega), marks_get _ _ _ hlt, marks_get _ _ _ (by omega)]
    · rw [List.getElem?_append_right (by rw [marks_length]; omega), List.getElem?_append_right (by rw [marks_length]; omega), List.getElem?_drop, List.getElem?_drop]
      congr 1
      simp only [marks_length]
      omega

theorem grown_set {w w1 : World} {g : Nat} (h : w.grownBy w1 (some g)) (j : Nat) (u : Value) : w.grownBy (w1.setCell ⟨g, j, none⟩ u) (some g) :=
  ⟨h.os, h.tape, h.output, by simpa [World.setCell] using h.size, fun k hk hne => (Below.heap_setCell w1 _ u k (fun e => hne (by subst e; rfl))).trans (h.block k hk hne)⟩
theorem grown_refl (w : World) (row : Option Nat) : w.grownBy w row := ⟨rfl, rfl, rfl, Nat.le_refl _, fun _ _ _ => rfl⟩

theorem own_cell {w : World} {base : Nat} {e : TypeId} {size g n cap : Nat} {xs : List Value} (h : w.ownsRow base e size (.slice (some ⟨g, 0, none⟩) n cap) n xs) (j : Nat) (hj : j < n * size) : ∃ u, w.cell? ⟨g, j, none⟩ = some u := by
  rw [h.cellAt j hj]
  exact ⟨xs[j]'(by rw [h.1]; exact hj), List.getElem?_eq_getElem (by rw [h.1]; exact hj)⟩

set_option maxRecDepth 100000 in
set_option maxHeartbeats 800000 in
theorem markIntS_c (A : Option Addr) (n c base : Nat) (e : TypeId) (k0 : Int) (xs : List Value) (w : World) (hown : w.ownsRow base e 1 (.slice A n c) n xs) (hn : n ≤ 1000000000000) (hk0 : 0 ≤ k0) (hk1 : k0 ≤ 1000000000000) :
    Calls Tryz.prog 17 #[.slice A n c, .int .i64 k0] w fun r w' => r = .returned (.int .i64 (k0 + n)) ∧ w'.ownsRow base e 1 (.slice A n c) n (marks k0 n) ∧ w.grownBy w' (Value.ownBlock (.slice A n c)) := by
  have hxs : xs.length = n := by simpa using hown.1
  go_enter Tryz.func17, Tryz.ntmps17
  go_wp2
  go_loopw [1, 5] (fun m i wr => ∃ k : Nat, k ≤ n ∧ i = .int .i64 k ∧ m = .int .i64 (k0 + k) ∧ wr.ownsRow base e 1 (.slice A n c) n (marked k0 k xs) ∧ w.grownBy wr (Value.ownBlock (.slice A n c))) (fun _ i _ => n - (intOf i).toNat)
  case atStart => exact ⟨0, Nat.zero_le _, rfl, by go_num, by rw [marked_zero]; exact hown, grown_refl _ _⟩
  case round =>
    obtain ⟨k, hk, rfl, rfl, ho, hg⟩ := hrel
    by_cases hlt : k < n
    · obtain ⟨g, cap, hA, _, _⟩ := ho.form (by omega)
      injection hA with hA _ hc
      subst hA hc
      obtain ⟨u0, hu0⟩ := own_cell ho k (by omega)
      have hf0 := ho.frozenAt k
      have HX := Lib.hid hxs
      clear hxs
      go_wp2
      go_roundw
      case rel =>
        refine ⟨k + 1, by omega, by go_num, by go_num, ?_, grown_set hg _ _⟩
        have := (ho.stored k (.int .i64 (k0 + k))).1
        rw [marked_set _ _ _ (by have := HX.out; omega)] at this
        exact this
      case measure => simp [intOf]; omega
    · obtain rfl : k = n := by omega
      go_wp2
      go_ret
      refine ⟨rfl, ?_, hg⟩
      have := marked_all k0 xs
      rw [hxs] at this
      rw [← this]
      exact ho

set_option maxRecDepth 100000 in
set_option maxHeartbeats 800000 in
theorem markCodeS_c (A : Option Addr) (n c base : Nat) (e : TypeId) (k0 : Int) (xs : List Value) (w : World) (hown : w.ownsRow base e 4 (.slice A n c) n xs) (hn : n ≤ 1000000000000) (hk0 : 0 ≤ k0) (hk1 : k0 ≤ 1000000000000) :
    Calls Tryz.prog 16 #[.slice A n c, .int .i64 k0] w fun r w' => r = .returned (.int .i64 (k0 + 4 * n)) ∧ w'.ownsRow base e 4 (.slice A n c) n (marks k0 (n * 4)) ∧ w.grownBy w' (Value.ownBlock (.slice A n c)) := by
  have hxs : xs.length = n * 4 := hown.1
  go_enter Tryz.func16, Tryz.ntmps16
  go_wp2
  go_loopw [1, 5] (fun m i wr => ∃ k : Nat, k ≤ n ∧ i = .int .i64 k ∧ m = .int .i64 (k0 + 4 * k) ∧ wr.ownsRow base e 4 (.slice A n c) n (marked k0 (k * 4) xs) ∧ w.grownBy wr (Value.ownBlock (.slice A n c))) (fun _ i _ => n - (intOf i).toNat)
  case atStart => exact ⟨0, Nat.zero_le _, rfl, by go_num, by rw [Nat.zero_mul, marked_zero]; exact hown, grown_refl _ _⟩
  case round =>
    obtain ⟨k, hk, rfl, rfl, ho, hg⟩ := hrel
    by_cases hlt : k < n
    · obtain ⟨g, cap, hA, _, _⟩ := ho.form (by omega)
      injection hA with hA _ hc
      subst hA hc
      obtain ⟨u0, hu0⟩ := own_cell ho (k * 4) (by omega)
      obtain ⟨u1, hu1⟩ := own_cell ho (k * 4 + 1) (by omega)
      obtain ⟨u2, hu2⟩ := own_cell ho (k * 4 + 2) (by omega)
      obtain ⟨u3, hu3⟩ := own_cell ho (k * 4 + 3) (by omega)
      have hf0 := ho.frozenAt (k * 4)
      have hf1 := ho.frozenAt (k * 4 + 1)
      have hf2 := ho.frozenAt (k * 4 + 2)
      have hf3 := ho.frozenAt (k * 4 + 3)
      have HX := Lib.hid hxs
      clear hxs
      go_wp2
      go_roundw
      case rel =>
        refine ⟨k + 1, by omega, by go_num, by go_num, ?_, by repeat (first | exact hg | apply grown_set)⟩
        have h1 := ((((((ho.stored (k * 4) (.int .i64 (k0 + (k * 4 : Nat)))).1).stored (k * 4 + 1) (.int .i64 (k0 + (k * 4 + 1 : Nat)))).1.stored (k * 4 + 2) (.int .i64 (k0 + (k * 4 + 2 : Nat)))).1).stored (k * 4 + 3) (.int .i64 (k0 + (k * 4 + 3 : Nat)))).1
        have hx := HX.out
        rw [marked_set _ _ _ (by omega), marked_set _ _ _ (by omega), marked_set _ _ _ (by omega), marked_set _ _ _ (by omega)] at h1
        rw [show (k + 1) * 4 = k * 4 + 3 + 1 from by omega]
        rw [show k0 + 4 * (k : Int) + 1 + 1 + 1 = k0 + (k * 4 + 3 : Nat) from by omega, show k0 + 4 * (k : Int) + 1 + 1 = k0 + (k * 4 + 2 : Nat) from by omega, show k0 + 4 * (k : Int) + 1 = k0 + (k * 4 + 1 : Nat) from by omega, show k0 + 4 * (k : Int) = k0 + (k * 4 : Nat) from by omega]
        exact h1
      case measure => simp [intOf]; omega
    · obtain rfl : k = n := by omega
      go_wp2
      go_ret
      refine ⟨rfl, ?_, hg⟩
      have := marked_all k0 xs
      rw [hxs] at this
      rw [← this]
      exact ho

theorem Reads.at1 {w : World} {B n : Nat} {A : Option Addr} {xs : List Value} (h : Reads w B 1 A n xs) {k : Nat} (hk : k < n) :
    ∃ b off u, A = some ⟨b, off, none⟩ ∧ b < B ∧ xs[k]? = some u ∧ w.cell? ⟨b, off + k, none⟩ = some u := by
  obtain ⟨b, off, e, hb, hc⟩ := h.2 (by omega)
  have hl : k < xs.length := by have := h.1; omega
  exact ⟨b, off, xs[k], e, hb, List.getElem?_eq_getElem hl, hc k _ (List.getElem?_eq_getElem hl)⟩

set_option maxRecDepth 100000 in
set_option maxHeartbeats 800000 in
theorem heldIntS_c (A : Option Addr) (n c B : Nat) (k0 : Int) (w : World) (hr : Reads w B 1 A n (marks k0 n)) (hn : n ≤ 1000000000000) (hk0 : 0 ≤ k0) (hk1 : k0 ≤ 1000000000000) :
    Calls Tryz.prog 18 #[.slice A n c, .int .i64 k0] w fun r w' => r = .returned (.int .i64 (k0 + n)) ∧ Below w.heap.size w w' := by
  go_enter Tryz.func18, Tryz.ntmps18
  go_wp2
  go_loopw [1, 5] (fun m i wr => ∃ k : Nat, k ≤ n ∧ i = .int .i64 k ∧ m = .int .i64 (k0 + k) ∧ (∀ p, wr.cell? p = w.cell? p) ∧ Below w.heap.size w wr) (fun _ i _ => n - (intOf i).toNat)
  case atStart => exact ⟨0, Nat.zero_le _, rfl, by go_num, fun _ => rfl, Below.refl _ _⟩
  case round =>
    obtain ⟨k, hk, rfl, rfl, hs, hb⟩ := hrel
    by_cases hlt : k < n
    · obtain ⟨b, off, u, rfl, _, hu, hc⟩ := hr.at1 hlt
      rw [marks_get _ _ _ hlt] at hu
      injection hu with hu
      subst hu
      rw [← hs] at hc
      have HS := Lib.hid hs
      clear hs
      have ht : ((k0 + (k : Int)) != (k0 + (k : Int))) = false := by simp
      go_wp2
      go_roundw
      case rel => exact ⟨k + 1, by omega, by go_num, by go_num, HS.out, hb⟩
      case measure => simp [intOf]; omega
    · obtain rfl : k = n := by omega
      clear hs
      go_wp2
      go_ret
      exact ⟨rfl, hb⟩

def intsEq : List Int → List Int → Bool
  | [], [] => true
  | x :: l, y :: m => x == y && intsEq l m
  | _, _ => false
theorem intsEq_len : ∀ (l m : List Int), l.length ≠ m.length → intsEq l m = false
  | [], [], h => absurd rfl h
  | [], _ :: _, _ => rfl
  | _ :: _, [], _ => rfl
  | x :: l, y :: m, h => by
    have := intsEq_len l m (by simpa using h)
    simp [intsEq, this]
theorem intsEq_refl : ∀ l : List Int, intsEq l l = true
  | [] => rfl
  | x :: l => by simp [intsEq, intsEq_refl l]
theorem cdEq_refl (x : Cd) : cdEq x x = true := by simp [cdEq]
theorem cdsEq_refl : ∀ l : List Cd, cdsEq l l = true
  | [] => rfl
  | x :: l => by simp [cdsEq, cdsEq_refl l, cdEq_refl]
theorem intsEq_step {l m : List Int} {k : Nat} {x y : Int} (hx : l[k]? = some x) (hy : m[k]? = some y) : intsEq (l.drop k) (m.drop k) = (x == y && intsEq (l.drop (k + 1)) (m.drop (k + 1))) := by
  obtain ⟨h1, rfl⟩ := List.getElem?_eq_some_iff.1 hx
  obtain ⟨h2, rfl⟩ := List.getElem?_eq_some_iff.1 hy
  rw [List.drop_eq_getElem_cons h1, List.drop_eq_getElem_cons h2]
  rfl

set_option maxRecDepth 100000 in
set_option maxHeartbeats 800000 in
theorem eqIntS_c (A A2 : Option Addr) (c c2 : Nat) (l m : List Int) (w : World) (hA : RdI w w.heap.size A l) (hA2 : RdI w w.heap.size A2 m) (hl : l.length ≤ 1000000000000) (hm : m.length ≤ 1000000000000) :
    Calls Tryz.prog 14 #[.slice A l.length c, .slice A2 m.length c2] w fun e w' => e = .returned (.bool (intsEq l m)) ∧ Below w.heap.size w w' := by
  by_cases hlen : l.length = m.length
  · rw [← hlen]
    have HL := Lib.hid hlen
    clear hlen
    go_enter Tryz.func14, Tryz.ntmps14
    go_wp2
    go_loopw [5] (fun i wr => ∃ k : Nat, k ≤ l.length ∧ i = .int .i64 k ∧ Hid (intsEq l m = intsEq (l.drop k) (m.drop k)) ∧ Below w.heap.size w wr) (fun i _ => l.length - (intOf i).toNat)
    case atStart => exact ⟨0, Nat.zero_le _, rfl, Lib.hid rfl, Below.refl _ _⟩
    case round =>
      obtain ⟨k, hk, rfl, HE, hb⟩ := hrel
      by_cases hlt : k < l.length
      · obtain ⟨b, off, x, rfl, hbB, hx, c0⟩ := (hA.below hb).at_ hlt
        obtain ⟨b2, off2, y, rfl, hbB2, hy, d0⟩ := (hA2.below hb).at_ (by have := HL.out; omega : k < m.length)
        have HX := Lib.hid hx
        have HY := Lib.hid hy
        clear hx hy
        cases he : x == y with
        | false =>
          have hn : (x != y) = true := by simp [bne, he]
          have HN := Lib.hid he
          clear he
          go_wp2_with fail
          go_quiet (fail)
          go_wp2
          go_ret
          exact ⟨retb (by rw [HE.out, intsEq_step HX.out HY.out, HN.out]; rfl), hb.trans ⟨rfl, rfl, rfl, Nat.le_refl _, fun _ _ => rfl⟩⟩
        | true =>
          have hn : (x != y) = false := by simp [bne, he]
          have HN := Lib.hid he
          clear he
          go_wp2_with fail
          go_quiet (fail)
          go_wp2
          go_roundw
          case rel => exact ⟨k + 1, by omega, by go_num, Lib.hid (by rw [HE.out, intsEq_step HX.out HY.out, HN.out]; rfl), hb.trans ⟨rfl, rfl, rfl, Nat.le_refl _, fun _ _ => rfl⟩⟩
          case measure => simp [intOf]; omega
      · go_wp2
        go_ret
        refine ⟨retb ?_, hb⟩
        obtain rfl : k = l.length := by omega
        rw [HE.out, List.drop_length, List.drop_of_length_le (by have := HL.out; omega)]
        rfl
  · have hne : ((l.length : Int) != (m.length : Int)) = true := by rw [bne_iff_ne]; omega
    go_enter Tryz.func14, Tryz.ntmps14
    go_wp2
    go_ret
    exact ⟨retb (intsEq_len l m hlen).symm, (by repeat (first | exact Below.refl _ _ | assumption | refine Below.alloc ?_ (by simp <;> omega) _ | refine Below.setCell ?_ (by simp <;> omega) _ | refine Below.drew ?_))⟩

/-- Replacing element k of a list by the next element of another one. -/
theorem take_set_drop {α : Type} (xs zs : List α) (k : Nat) (x : α) (hx : xs[k]? = some x) (hk : k < zs.length) : (xs.take k ++ zs.drop k).set k x = xs.take (k + 1) ++ zs.drop (k + 1) := by
  obtain ⟨hl, rfl⟩ := List.getElem?_eq_some_iff.1 hx
  have hlen : (xs.take k).length = k := by simp; omega
  rw [List.set_append_right (h := by omega), hlen, Nat.sub_self, List.drop_eq_getElem_cons hk, List.set_cons_zero, List.take_succ_eq_append_getElem hl, List.append_assoc]
  rfl

set_option maxRecDepth 100000 in
set_option maxHeartbeats 800000 in
theorem toCodeS_c (A : Option Addr) (c : Nat) (l : List Cd) (w : World) (hA : RdC w w.heap.size A l) (hl : l.length ≤ 1000000000) :
    Calls Tryz.prog 11 #[.slice A l.length c] w fun e w' => ∃ A', e = .returned (.slice A' l.length l.length) ∧ OC w' w.heap.size A' l.length l.length l ∧ Below w.heap.size w w' := by
  have hmk := make_code l.length (by omega)
  go_enter Tryz.func11, Tryz.ntmps11
  go_wp2
  have hz := zeroRow_size (.agg #[.int .i64 0, .int .i64 0, .int .i64 0, .int .i64 0]) (l.length * 4)
  have ho := OR.lit w w.heap.size 57 4 l.length _ (Nat.le_refl _) (by omega) hz
  generalize zeroRow (.agg #[.int .i64 0, .int .i64 0, .int .i64 0, .int .i64 0]) (l.length * 4) = zr at *
  clear hmk
  go_loopw [4] (fun i wr => ∃ k : Nat, k ≤ l.length ∧ i = .int .i64 k ∧ OR wr w.heap.size 57 4 (some ⟨w.heap.size, 0, none⟩) l.length l.length ((cdsCells l).take (k * 4) ++ zr.toList.drop (k * 4)) ∧ Below w.heap.size w wr) (fun i _ => l.length - (intOf i).toNat)
  case atStart => exact ⟨0, Nat.zero_le _, rfl, by simpa using ho, (Below.refl _ _).alloc (Nat.le_refl _) _⟩
  case round =>
    obtain ⟨k, hk, rfl, ho, hb⟩ := hrel
    by_cases hlt : k < l.length
    · obtain ⟨b, off, x, rfl, hbB, hx, c0, c1, c2, c3⟩ := (hA.below hb).at_ hlt
      have HX := Lib.hid hx
      have HZ := Lib.hid hz
      clear hx hz
      go_wp2_with fail
      refine (toCode_c x _).mono ?_
      rintro e w1 ⟨rfl, hb1⟩
      have ho1 := ho.below hb1 (Nat.le_refl _)
      obtain ⟨u0, hu0⟩ := ho1.some_cell (k * 4) (by omega)
      obtain ⟨u1, hu1⟩ := ho1.some_cell (k * 4 + 1) (by omega)
      obtain ⟨u2, hu2⟩ := ho1.some_cell (k * 4 + 2) (by omega)
      obtain ⟨u3, hu3⟩ := ho1.some_cell (k * 4 + 3) (by omega)
      have hf0 := ho1.at0.2.1 (k * 4)
      have hf1 := ho1.at0.2.1 (k * 4 + 1)
      have hf2 := ho1.at0.2.1 (k * 4 + 2)
      have hf3 := ho1.at0.2.1 (k * 4 + 3)
      clear c0 c1 c2 c3
      unfold Cd.val
      go_wp2
      go_roundw
      case rel =>
        refine ⟨k + 1, by omega, by go_num, ?_, ?_⟩
        · have h1 := ((((((ho1.at0.2.2 (k * 4) (.int .i64 x.op)).at0.2.2 (k * 4 + 1) (.int .i64 x.a))).at0.2.2 (k * 4 + 2) (.int .i64 x.b))).at0.2.2 (k * 4 + 3) (.int .i64 x.c))
          have hx := HX.out
          have hz := HZ.out
          have hcl := cdsCells_length l
          have hzl : zr.toList.length = l.length * 4 := by simpa using hz
          have e0 : (cdsCells l)[k * 4]? = some (.int .i64 x.op) := cdsCells_get l k x hx 0 (by omega)
          have e1 : (cdsCells l)[k * 4 + 1]? = some (.int .i64 x.a) := cdsCells_get l k x hx 1 (by omega)
          have e2 : (cdsCells l)[k * 4 + 2]? = some (.int .i64 x.b) := cdsCells_get l k x hx 2 (by omega)
          have e3 : (cdsCells l)[k * 4 + 3]? = some (.int .i64 x.c) := cdsCells_get l k x hx 3 (by omega)
          rw [take_set_drop _ zr.toList _ _ e0 (by omega), take_set_drop _ zr.toList _ _ e1 (by omega), take_set_drop _ zr.toList _ _ e2 (by omega), take_set_drop _ zr.toList _ _ e3 (by omega)] at h1
          rw [show (k + 1) * 4 = k * 4 + 3 + 1 from by omega]
          exact h1
        · have := hb.trans (hb1.mono hb.size)
          exact (((this.setCell (Nat.le_refl _) _).setCell (Nat.le_refl _) _).setCell (Nat.le_refl _) _).setCell (Nat.le_refl _) _
      case measure => simp [intOf]; omega
    · obtain rfl : k = l.length := by omega
      go_wp2
      go_ret
      refine ⟨_, rfl, ?_, hb⟩
      have hzl : zr.toList.length = l.length * 4 := by simpa using hz
      rw [List.take_of_length_le (by rw [cdsCells_length]; omega), List.drop_of_length_le (by omega), List.append_nil] at ho
      exact ho

end Go.Proofs.YtakeacndmnnbmaaGreat
