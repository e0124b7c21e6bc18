/- CanPick and PickPlaces of both packages. -/
import Derived.Test.YtcpjhlkcfohkiaaSValid
import Derived.Test.YtcpjhlkcfohkiaaIValid
namespace Go.Proofs.Ytcpjhlkcfohkiaa
open Go.RowKit
set_option linter.unusedVariables false
set_option linter.unusedSimpArgs false

def canPick (l : List Cd) (k : Int) : Bool := pv l && (inR k 0 (l.length - 3) && pickB l k.toNat)

theorem sCanPick_c (A : Option Addr) (c : Nat) (l : List Cd) (k : Int) (w : World) (hA : RdC w w.heap.size A l) (hl : l.length ≤ 1000000000) :
    Calls Try.prog 32 #[.slice A l.length c, .int .i64 k] w fun e w' => e = .returned (.bool (canPick l k)) ∧ Below w.heap.size w w' := by
  cases hp : pv l with
  | false =>
    go_enter Try.func32, Try.ntmps32
    go_wp2_with fail
    refine (sProgramValid_c A c l w hA hl).mono ?_
    rintro e w1 ⟨rfl, hb⟩
    go_wp2
    go_ret
    exact ⟨retb (by simp [canPick, hp]), hb⟩
  | true =>
    cases hr : inR k 0 (l.length - 3) with
    | false =>
      go_enter Try.func32, Try.ntmps32
      go_wp2_with fail
      refine (sProgramValid_c A c l w hA hl).mono ?_
      rintro e w1 ⟨rfl, hb⟩
      go_wp2_with (go_at_call 76; refine (l1In_c _ _ _ _).mono ?_; rintro e w' ⟨rfl, rfl⟩)
      go_ret
      exact ⟨retb (by simp [canPick, hr]), hb⟩
    | true =>
      obtain ⟨hr1, hr2⟩ := inR_iff.1 hr
      obtain ⟨n, rfl⟩ := Int.eq_ofNat_of_zero_le hr1
      have hn : n + 2 < l.length := by omega
      go_enter Try.func32, Try.ntmps32
      go_wp2_with fail
      refine (sProgramValid_c A c l w hA hl).mono ?_
      rintro e w1 ⟨rfl, hb⟩
      obtain ⟨b, off, x, rfl, hbB, hx, c0, -, -, -⟩ := (hA.below hb).at_ (show n < l.length by omega)
      have hy : l[n + 1]? = some (l[n + 1]'(by omega)) := List.getElem?_eq_getElem (by omega)
      have hz : l[n + 2]? = some (l[n + 2]'(by omega)) := List.getElem?_eq_getElem (by omega)
      generalize l[n + 1]'(by omega) = y at hy
      generalize l[n + 2]'(by omega) = z at hz
      have d0 := ((hA.below hb).at0 hy).2.1
      have e0 := ((hA.below hb).at0 hz).2.1
      have hpk : pickB l n = (x.op == 11 && y.op == 5 && z.op == 14) := by simp [pickB, opAt, hx, hy, hz]
      have HK := Lib.hid hpk
      have HX := Lib.hid (And.intro hx (And.intro hy hz))
      clear hx hy hz hpk hr1
      go_wp2_with (go_at_call 76; refine (l1In_c _ _ _ _).mono ?_; rintro e w' ⟨rfl, rfl⟩)
      all_goals go_ret
      all_goals refine ⟨retb ?_, hb⟩
      all_goals (unfold canPick; rw [Int.toNat_natCast, HK.out, hp, hr]; simp_all)

theorem pickB_short {l : List Cd} {n : Nat} (h : ¬ n + 2 < l.length) : pickB l n = false := by
  have : opAt l (n + 2) = 0 := by simp [opAt, List.getElem?_eq_none (show l.length ≤ n + 2 by omega)]
  simp [pickB, this]

theorem iCanPick0_c (A : Option Addr) (c n : Nat) (l : List Cd) (w : World) (hA : RdC w w.heap.size A l) (hl : l.length ≤ 1000000000) (hn : n ≤ l.length) :
    Calls Try.prog 81 #[.slice A l.length c, .int .i64 n] w fun e w' => e = .returned (.bool (pickB l n)) ∧ Below w.heap.size w w' := by
  by_cases h3 : n + 2 < l.length
  · obtain ⟨b, off, x, rfl, hbB, hx, c0, -, -, -⟩ := hA.at_ (show n < l.length by omega)
    have hy : l[n + 1]? = some (l[n + 1]'(by omega)) := List.getElem?_eq_getElem (by omega)
    have hz : l[n + 2]? = some (l[n + 2]'(by omega)) := List.getElem?_eq_getElem (by omega)
    generalize l[n + 1]'(by omega) = y at hy
    generalize l[n + 2]'(by omega) = z at hz
    have d0 := (hA.at0 hy).2.1
    have e0 := (hA.at0 hz).2.1
    have hpk : pickB l n = (x.op == 11 && y.op == 5 && z.op == 14) := by simp [pickB, opAt, hx, hy, hz]
    have HK := Lib.hid hpk
    clear hx hy hz hpk
    go_enter Try.func81, Try.ntmps81
    go_wp2
    all_goals go_ret
    all_goals refine ⟨retb ?_, Below.refl _ _⟩
    all_goals (rw [HK.out]; simp_all)
  · go_enter Try.func81, Try.ntmps81
    go_wp2
    go_ret
    exact ⟨retb (pickB_short h3).symm, Below.refl _ _⟩

theorem opens_c (A : Option Addr) (c : Nat) (l : List Cd) (k : Int) (w : World) (hA : RdC w w.heap.size A l) (hl : l.length ≤ 1000000000) :
    Calls Try.prog 80 #[.slice A l.length c, .int .i64 k] w fun e w' => e = .returned (.bool (pv l && (inR k 0 (l.length - 1) && opB (cdAt l k.toNat)))) ∧ Below w.heap.size w w' := by
  cases hp : pv l with
  | false =>
    go_enter Try.func80, Try.ntmps80
    go_wp2_with fail
    refine (iProgramValid_c A c l w hA hl).mono ?_
    rintro e w1 ⟨rfl, hb⟩
    go_wp2
    go_ret
    exact ⟨rfl, hb⟩
  | true =>
    cases hr : inR k 0 (l.length - 1) with
    | false =>
      go_enter Try.func80, Try.ntmps80
      go_wp2_with fail
      refine (iProgramValid_c A c l w hA hl).mono ?_
      rintro e w1 ⟨rfl, hb⟩
      go_wp2_with (go_at_call 77; refine (within_c _ _ _ _).mono ?_; rintro e w' ⟨rfl, rfl⟩)
      go_ret
      exact ⟨rfl, hb⟩
    | true =>
      obtain ⟨hr1, hr2⟩ := inR_iff.1 hr
      obtain ⟨n, rfl⟩ := Int.eq_ofNat_of_zero_le hr1
      have hn : n < l.length := by omega
      go_enter Try.func80, Try.ntmps80
      go_wp2_with fail
      refine (iProgramValid_c A c l w hA hl).mono ?_
      rintro e w1 ⟨rfl, hb⟩
      obtain ⟨b, off, x, rfl, hbB, hx, c0, -, -, -⟩ := (hA.below hb).at_ hn
      have hpk : opB (cdAt l n) = (x.op == 11 || x.op == 13) := by rw [cdAt_get hx]; rfl
      have HK := Lib.hid hpk
      clear hx hpk hr1
      go_wp2_with (go_at_call 77; refine (within_c _ _ _ _).mono ?_; rintro e w' ⟨rfl, rfl⟩)
      all_goals go_ret
      all_goals refine ⟨retb ?_, hb⟩
      all_goals (rw [Int.toNat_natCast, HK.out]; simp_all)
end Go.Proofs.Ytcpjhlkcfohkiaa
