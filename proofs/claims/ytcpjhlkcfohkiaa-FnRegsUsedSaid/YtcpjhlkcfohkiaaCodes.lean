/- Contracts of the helpers on lists of instructions. -/
import Derived.Test.YtcpjhlkcfohkiaaSmall
import Derived.StillTailTactics
import Derived.Deep.RegionWith
namespace Go.Proofs.Ytcpjhlkcfohkiaa
open Go.RowKit
set_option linter.unusedVariables false
set_option linter.unusedSimpArgs false

def cdEq (x y : Cd) : Bool := x.op == y.op && (x.a == y.a && (x.b == y.b && x.c == y.c))

theorem eqCode_c (x y : Cd) (w : World) :
    Calls Try.prog 72 #[x.val, y.val] w fun e w' => e = .returned (.bool (cdEq x y)) ∧ Below w.heap.size w w' := by
  obtain ⟨o, a, b, c⟩ := x
  obtain ⟨o2, a2, b2, c2⟩ := y
  unfold Cd.val
  go_enter Try.func72, Try.ntmps72
  go_wp2
  all_goals go_ret
  all_goals refine ⟨retb ?_, (by repeat (first | exact Below.refl _ _ | assumption | refine Below.alloc ?_ (by simp <;> omega) _ | refine Below.setCell ?_ (by simp <;> omega) _ | refine Below.drew ?_))⟩
  all_goals (unfold cdEq; simp_all; done)

theorem toCode_c (x : Cd) (w : World) :
    Calls Try.prog 68 #[x.val] w fun e w' => e = .returned x.val ∧ Below w.heap.size w w' := by
  obtain ⟨o, a, b, c⟩ := x
  unfold Cd.val
  go_enter Try.func68, Try.ntmps68
  go_wp2
  exact bodyPost_ret (v := .agg #[.int .i64 o, .int .i64 a, .int .i64 b, .int .i64 c]) (by simp [results, Try.results68, go_sem]) rfl ⟨rfl, (by repeat (first | exact Below.refl _ _ | assumption | refine Below.alloc ?_ (by simp <;> omega) _ | refine Below.setCell ?_ (by simp <;> omega) _ | refine Below.drew ?_))⟩

theorem szCodeS_c (A : Option Addr) (n c : Nat) (left : Int) (w : World) (hn : n ≤ 9223372036854775807) (h1 : 0 ≤ left) (h2 : left ≤ 100000000) :
    Calls Try.prog 15 #[.slice A n c, .int .i64 left] w fun e w' => e = .returned (.int .i64 (if left - n < 0 then -1 else left - n)) ∧ w = w' := by
  by_cases h : left - n < 0
  all_goals
    go_enter Try.func15, Try.ntmps15
    go_wp2
    go_ret
    exact ⟨reti (by simp [h]), rfl⟩

def cdsEq : List Cd → List Cd → Bool
  | [], [] => true
  | x :: l, y :: m => cdEq x y && cdsEq l m
  | _, _ => false

theorem cdsEq_len : ∀ (l m : List Cd), l.length ≠ m.length → cdsEq l m = false
  | [], [], h => absurd rfl h
  | [], _ :: _, _ => rfl
  | _ :: _, [], _ => rfl
  | x :: l, y :: m, h => by
    have := cdsEq_len l m (by simpa using h)
    simp [cdsEq, this]

theorem cdsEq_step {l m : List Cd} {k : Nat} {x y : Cd} (hx : l[k]? = some x) (hy : m[k]? = some y) : cdsEq (l.drop k) (m.drop k) = (cdEq x y && cdsEq (l.drop (k + 1)) (m.drop (k + 1))) := by
  obtain ⟨h1, rfl⟩ := List.getElem?_eq_some_iff.1 hx
  obtain ⟨h2, rfl⟩ := List.getElem?_eq_some_iff.1 hy
  rw [List.drop_eq_getElem_cons h1, List.drop_eq_getElem_cons h2]
  rfl

set_option maxRecDepth 100000 in
set_option maxHeartbeats 800000 in
theorem eqCodeS_c (A A2 : Option Addr) (c c2 : Nat) (l m : List Cd) (w : World) (hA : RdC w w.heap.size A l) (hA2 : RdC w w.heap.size A2 m) (hl : l.length ≤ 1000000000000) (hm : m.length ≤ 1000000000000) :
    Calls Try.prog 19 #[.slice A l.length c, .slice A2 m.length c2] w fun e w' => e = .returned (.bool (cdsEq l m)) ∧ Below w.heap.size w w' := by
  by_cases hlen : l.length = m.length
  · rw [← hlen]
    have HL := Lib.hid hlen
    clear hlen
    go_enter Try.func19, Try.ntmps19
    go_wp2
    go_loopw [5] (fun i wr => ∃ k : Nat, k ≤ l.length ∧ i = .int .i64 k ∧ Hid (cdsEq l m = cdsEq (l.drop k) (m.drop k)) ∧ Below w.heap.size w wr) (fun i _ => l.length - (intOf i).toNat)
    case atStart => exact ⟨0, Nat.zero_le _, rfl, Lib.hid rfl, Below.refl _ _⟩
    case round =>
      obtain ⟨k, hk, rfl, HE, hb⟩ := hrel
      by_cases hlt : k < l.length
      · obtain ⟨b, off, x, rfl, hbB, hx, c0, c1, c2', c3⟩ := (hA.below hb).at_ hlt
        obtain ⟨b2, off2, y, rfl, hbB2, hy, d0, d1, d2, d3⟩ := (hA2.below hb).at_ (by have := HL.out; omega : k < m.length)
        have HX := Lib.hid hx
        have HY := Lib.hid hy
        clear hx hy
        go_wp2_with fail
        go_still_tail 8, (by kernel_rfl)
        go_wp2_with (go_at_call 72; refine (eqCode_c x y _).mono ?_; rintro e w1 ⟨rfl, hb1⟩)
        · have he : cdEq x y = false := by simpa using ‹(!cdEq x y) = true›
          go_ret
          exact ⟨retb (by rw [HE.out, cdsEq_step HX.out HY.out, he]; rfl), hb.drew.trans (hb1.mono hb.size)⟩
        · have he : cdEq x y = true := by simpa using ‹(!cdEq x y) = false›
          go_roundw
          case rel => exact ⟨k + 1, by omega, by go_num, Lib.hid (by rw [HE.out, cdsEq_step HX.out HY.out, he]; rfl), hb.drew.trans (hb1.mono hb.size)⟩
          case measure => simp [intOf]; omega
      · go_wp2
        go_ret
        refine ⟨retb ?_, hb⟩
        obtain rfl : k = l.length := by omega
        rw [HE.out, List.drop_length, List.drop_of_length_le (by have := HL.out; omega)]
        rfl
  · go_enter Try.func19, Try.ntmps19
    go_wp2
    go_ret
    exact ⟨retb (cdsEq_len l m hlen).symm, (by repeat (first | exact Below.refl _ _ | assumption | refine Below.alloc ?_ (by simp <;> omega) _ | refine Below.setCell ?_ (by simp <;> omega) _ | refine Below.drew ?_))⟩
end Go.Proofs.Ytcpjhlkcfohkiaa
