/- Live sets and dead places of any program, valid or not, of both packages. -/
import Derived.Test.YtcaibhjdahmjeaaLive10
import Derived.Test.YtcaibhjdahmjeaaLive5
namespace Go.Proofs.Ytcaibhjdahmjeaa
open Go.RowKit
set_option linter.unusedVariables false
set_option linter.unusedSimpArgs false

noncomputable def lsL (l : List Cd) : List Int := if pv l then lvRow (liveFix l) (l.length + 1) else []
noncomputable def dpL (l : List Cd) : List Int := if pv l then deadL l else []

set_option maxRecDepth 100000 in
theorem sGraphBad_c (A : Option Addr) (c : Nat) (l : List Cd) (w : World) (hA : RdC w w.heap.size A l) (hl : l.length ≤ 1000000000) (hp : pv l = false) :
    Calls Try.prog 96 #[.slice A l.length c] w fun e w' => (∃ (B : Option Addr) (n d : Nat), e = .returned (.slice B n d)) ∧ Below w.heap.size w w' := by
  have hb0 := (Below.refl w.heap.size w).alloc (Nat.le_refl _) (.cells #[] 29)
  have HB0 := Lib.hid hb0
  clear hb0
  by_cases h0 : l.length = 0
  · obtain rfl : l = [] := List.eq_nil_of_length_eq_zero h0
    exact absurd hp (by decide)
  · have h0I : (0 : Int) < (l.length : Int) := by omega
    have hz : decide (0 < (l.length : Int)) = true := decide_eq_true h0I
    go_enter Try.func96, Try.ntmps96
    go_wp2
    go_loopw [3, 4] (fun ov kv wr => ov = .slice (some ⟨w.heap.size, 0, none⟩) 0 0 ∧ kv = .int .i64 0 ∧ w.alloc (.cells #[] 29) = wr) (fun _ _ _ => 0)
    case atStart => exact ⟨rfl, rfl, rfl⟩
    case round =>
      obtain ⟨rfl, rfl, rfl⟩ := hrel
      go_wp2_with fail
      refine (sProgramValid_c A c l _ ((hA.below HB0.out).more HB0.out.size) hl).mono ?_
      rintro e w1 ⟨rfl, hb1⟩
      rw [hp]
      have hb2 := below_trans HB0.out (Nat.le_refl _) hb1
      go_wp2_with fail
      refine (sProgramValid_c A c l w1 ((hA.below hb2).more hb2.size) hl).mono ?_
      rintro e w2 ⟨rfl, hb3⟩
      rw [hp]
      have hb4 := below_trans hb2 (Nat.le_refl _) hb3
      go_wp2
      go_ret
      exact ⟨⟨_, _, _, rfl⟩, hb4⟩

set_option maxRecDepth 100000 in
theorem sLiveSetsA_c (A : Option Addr) (c : Nat) (l : List Cd) (w : World) (hA : RdC w w.heap.size A l) (hl : l.length ≤ 1000000000) :
    Calls Try.prog 57 #[.slice A l.length c] w (RetI w (lsL l)) := by
  cases hp : pv l with
  | true =>
    have e : lsL l = lvRow (liveFix l) (l.length + 1) := by simp [lsL, hp]
    rw [e]
    exact sLiveSets_c A c l w hA hp
  | false =>
    have HD := Lib.hid (show lsL l = [] by simp [lsL, hp])
    go_enter Try.func57, Try.ntmps57
    go_wp2_with fail
    refine (sProgramValid_c A c l w hA hl).mono ?_
    rintro e w1 ⟨rfl, hb1⟩
    rw [hp]
    go_wp2
    go_ret
    rw [HD.out]
    exact RetI.of (OI.empty_ w1 _ hb1.size) (hb1.alloc hb1.size _)

set_option maxRecDepth 100000 in
theorem iLiveSetsA_c (A : Option Addr) (c : Nat) (l : List Cd) (w : World) (hA : RdC w w.heap.size A l) (hl : l.length ≤ 1000000000) :
    Calls Try.prog 56 #[.slice A l.length c] w (RetI w (lsL l)) := by
  cases hp : pv l with
  | false =>
    have HD := Lib.hid (show lsL l = [] by simp [lsL, hp])
    go_enter Try.func56, Try.ntmps56
    go_wp2_with fail
    refine (iProgramValid_c A c l w hA hl).mono ?_
    rintro e w1 ⟨rfl, hb1⟩
    rw [hp]
    go_wp2
    go_ret
    rw [HD.out]
    exact ⟨none, 0, rfl, .inl ⟨rfl, rfl⟩, hb1⟩
  | true =>
    have HP := Lib.hid hp
    have HD := Lib.hid (show lsL l = lvRow (liveFix l) (l.length + 1) by simp [lsL, hp])
    go_enter Try.func56, Try.ntmps56
    go_wp2_with fail
    refine (iProgramValid_c A c l w hA hl).mono ?_
    rintro e w1 ⟨rfl, hb1⟩
    rw [hp]
    clear hp
    go_wp2_with fail
    refine (iliveSets_c A c l w1 ((hA.below hb1).more hb1.size) HP.out).mono ?_
    rintro e w2 ⟨A2, c2, rfl, h2, hb2⟩
    go_wp2
    go_ret
    rw [HD.out]
    exact RetI.mono ⟨A2, c2, rfl, h2, hb2⟩ hb1

set_option maxRecDepth 100000 in
theorem sDeadPlacesA_c (A : Option Addr) (c : Nat) (l : List Cd) (w : World) (hA : RdC w w.heap.size A l) (hl : l.length ≤ 1000000000) :
    Calls Try.prog 47 #[.slice A l.length c] w (RetI w (dpL l)) := by
  cases hp : pv l with
  | true =>
    have e : dpL l = deadL l := by simp [dpL, hp]
    rw [e]
    exact sDeadPlaces_c A c l w hA hp
  | false =>
    have HD := Lib.hid (show dpL l = [] by simp [dpL, hp])
    have HL := Lib.hid (show lsL l = [] by simp [lsL, hp])
    have hb0 := (Below.refl w.heap.size w).alloc (Nat.le_refl _) (.cells #[] 3)
    have ho0 := OI.empty_ w w.heap.size (Nat.le_refl _)
    have HO0 := Lib.hid ho0
    have HB0 := Lib.hid hb0
    clear ho0 hb0
    have HP := Lib.hid hp
    clear hp
    by_cases h0 : l.length = 0
    · obtain rfl : l = [] := List.eq_nil_of_length_eq_zero h0
      exact absurd HP.out (by decide)
    · have h0I : (0 : Int) < (l.length : Int) := by omega
      have hz : decide (0 < (l.length : Int)) = true := decide_eq_true h0I
      go_enter Try.func47, Try.ntmps47
      go_wp2_with fail
      refine (sLiveSetsA_c A c l _ ((hA.below HB0.out).more HB0.out.size) hl).mono ?_
      rintro e w1 ⟨AL, cL, rfl, hoL, hb1⟩
      rw [HL.out]
      clear hoL
      have hbW1 := below_trans HB0.out (Nat.le_refl _) hb1
      have ho1 := OR.below HO0.out hb1 (Nat.le_refl _)
      go_wp2_with fail
      refine (sGraphBad_c A c l w1 ((hA.below hbW1).more hbW1.size) hl HP.out).mono ?_
      rintro e w2 ⟨⟨Bg, ng, dg, rfl⟩, hb2⟩
      have hbW2 := below_trans hbW1 (Nat.le_refl _) hb2
      have ho2 := OR.below ho1 hb2 (Nat.le_refl _)
      go_wp2
      go_loop [3, 6] (fun ov kv => ov = .slice (some ⟨w.heap.size, 0, none⟩) 0 0 ∧ kv = .int .i64 0) (fun _ _ => 0)
      case atStart => exact ⟨rfl, rfl⟩
      case round =>
        obtain ⟨rfl, rfl⟩ := hrel
        go_wp2
        go_ret
        rw [HD.out]
        exact RetI.of ho2 hbW2

set_option maxRecDepth 100000 in
theorem iDeadPlacesA_c (A : Option Addr) (c : Nat) (l : List Cd) (w : World) (hA : RdC w w.heap.size A l) (hl : l.length ≤ 1000000000) :
    Calls Try.prog 46 #[.slice A l.length c] w (RetI w (dpL l)) := by
  cases hp : pv l with
  | false =>
    have HD := Lib.hid (show dpL l = [] by simp [dpL, hp])
    go_enter Try.func46, Try.ntmps46
    go_wp2_with fail
    refine (iProgramValid_c A c l w hA hl).mono ?_
    rintro e w1 ⟨rfl, hb1⟩
    rw [hp]
    go_wp2
    go_ret
    rw [HD.out]
    exact ⟨none, 0, rfl, .inl ⟨rfl, rfl⟩, hb1⟩
  | true =>
    have HP := Lib.hid hp
    have HD := Lib.hid (show dpL l = deadL l by simp [dpL, hp])
    go_enter Try.func46, Try.ntmps46
    go_wp2_with fail
    refine (iProgramValid_c A c l w hA hl).mono ?_
    rintro e w1 ⟨rfl, hb1⟩
    rw [hp]
    clear hp
    go_wp2_with fail
    refine (ideadPlaces_c A c l w1 ((hA.below hb1).more hb1.size) HP.out).mono ?_
    rintro e w2 ⟨A2, c2, rfl, h2, hb2⟩
    go_wp2
    go_ret
    rw [HD.out]
    exact RetI.mono ⟨A2, c2, rfl, h2, hb2⟩ hb1
end Go.Proofs.Ytcaibhjdahmjeaa
