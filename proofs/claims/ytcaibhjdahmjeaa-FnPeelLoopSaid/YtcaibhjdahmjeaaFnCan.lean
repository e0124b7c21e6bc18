/- FnCanPick: the walk of the law. -/
import Derived.Test.YtcaibhjdahmjeaaSame
import Derived.Test.YtcaibhjdahmjeaaPicks
import Derived.Test.YtcaibhjdahmjeaaEnds
import Derived.Test.YtcaibhjdahmjeaaBlocks0
import Derived.Test.YtcaibhjdahmjeaaLive0
namespace Go.Proofs.Ytcaibhjdahmjeaa
open Go.RowKit
set_option linter.unusedVariables false
set_option linter.unusedSimpArgs false

def beL (l : List Cd) (k : Int) : Int × Int := if pv l && (inR k 0 (l.length - 1) && opB (cdAt l k.toNat)) then endOf l k.toNat else (-1, -1)

theorem pick_end {l : List Cd} {k : Int} (h : canPick l k = true) : ∃ p : Nat, k = p ∧ p + 2 < l.length ∧ beL l k = ((p : Int) + 2, -1) ∧ (cdAt l p).op = 11 ∧ (cdAt l (p + 1)).op = 5 := by
  simp only [canPick, Bool.and_eq_true] at h
  obtain ⟨hp, hin, hpk⟩ := h
  have hin' := inR_iff.1 hin
  obtain ⟨p, rfl⟩ : ∃ p : Nat, k = (p : Int) := ⟨k.toNat, by omega⟩
  have hpl : p + 2 < l.length := by omega
  simp only [pickB, Bool.and_eq_true, beq_iff_eq, Int.toNat_natCast] at hpk
  obtain ⟨⟨h0, h1⟩, h2⟩ := hpk
  rw [← cdAt_op] at h0 h1 h2
  have hob : opB (cdAt l p) = true := by simp [opB, h0]
  have hir : inR (p : Int) 0 (l.length - 1) = true := inR_iff.2 ⟨by omega, by omega⟩
  refine ⟨p, rfl, hpl, ?_, h0, h1⟩
  have e1 : l.drop (p + 1) = cdAt l (p + 1) :: cdAt l (p + 2) :: l.drop (p + 3) := by
    rw [List.drop_eq_getElem_cons (by omega : p + 1 < l.length), List.drop_eq_getElem_cons (by omega : p + 1 + 1 < l.length)]
    simp [cdAt, List.getElem?_eq_getElem (by omega : p + 1 < l.length), List.getElem?_eq_getElem (by omega : p + 2 < l.length)]
  have o1 : opB (cdAt l (p + 1)) = false := by simp [opB, h1]
  have o2 : opB (cdAt l (p + 2)) = false := by simp [opB, h2]
  simp only [beL, hp, hir, Int.toNat_natCast, hob, Bool.and_self, if_true, endOf, e1, scanE, o1, o2, h1, h2]
  simp
  omega

def SpRel (w0 : World) (B g K : Nat) (A : Option Addr) (n c : Nat) (av kv : Value) (wr : World) : Prop :=
  ∃ (k : Nat) (a : Int), k ≤ n ∧ kv = .int .i64 k ∧ av = .int .i64 a ∧ DSx w0 B g (K + 3 + k) A n c wr

set_option maxRecDepth 100000 in
set_option maxHeartbeats 4000000 in
theorem l20Spot_c {w : World} {B g K : Nat} (h : RdS w B g K) (hK : K ≤ 100000) :
    Calls Try.prog 81 #[.pointer (some ⟨g, 0, none⟩)] w fun e w' => ∃ (A : Option Addr) (n c : Nat) (a : Int), e = .returned (.tuple #[.slice A n c, .int .i64 a]) ∧ n ≤ 200000 ∧ DSx w B g (K + 900000) A n c w' := by
  go_enter Try.func81, Try.ntmps81
  go_wp2_with fail
  refine (l20Program_c h (by omega) 14 (by omega)).mono ?_
  rintro e w2 ⟨A, n, c, rfl, hn, D2⟩
  clear h
  go_wp2_with fail
  refine (pick_i D2.rd (by omega) _ (by omega) (by omega)).mono ?_
  rintro e w3 ⟨v3, rfl, hv3, hR3, hg, -, -⟩
  have D3 := D2.pick hR3 hg
  clear D2 hg hR3
  go_wp2_with fail
  refine (pick_i D3.rd (by omega) _ (by decide) (by decide)).mono ?_
  rintro e w4 ⟨v4, rfl, hv4, hR4, hg, -, -⟩
  have D4 := D3.pick hR4 hg
  clear D3 hg hR4
  go_wp2_with fail
  refine (pick_i D4.rd (by omega) _ (by decide) (by decide)).mono ?_
  rintro e w5 ⟨v5, rfl, hv5, hR5, hg, -, -⟩
  have D5 := D4.pick hR5 hg
  clear D4 hg hR5
  by_cases h5 : v5 = 0
  · subst h5
    go_wp2
    go_loopw [5, 6] (fun av kv wr => SpRel w B g (K + 500000) A n c av kv wr) (fun _ kv _ => n - (intOf kv).toNat)
    case atStart => exact ⟨0, _, Nat.zero_le _, rfl, rfl, D5.more (by omega)⟩
    case round =>
      clear D5
      obtain ⟨k, a, hk, rfl, rfl, D⟩ := hrel
      by_cases hlt : k < n
      · obtain ⟨l, hll, hrd, -⟩ := D.reads
        obtain ⟨b, off, x, rfl, hbB, hx, c0, c1, c2, c3⟩ := hrd.at_ (show k < l.length by omega)
        obtain ⟨xo, xa, xb, xc⟩ := x
        have hkI : (k : Int) < (n : Int) := by omega
        clear hx hrd
        go_wp2_with fail
        refine (l4Opens_c ⟨xo, xa, xb, xc⟩ _).mono ?_
        rintro e w6 ⟨rfl, hb6⟩
        have D6 : DSx w B g (K + 500000 + 3 + k) (some ⟨b, off, none⟩) n c w6 := by
          obtain ⟨l, q1, q2, q3, q4⟩ := D
          have hg6 : ∀ row, wr.grownBy w6 row := fun row => ⟨hb6.os, hb6.tape, hb6.output, hb6.size, fun k hk _ => hb6.block k hk⟩
          exact ⟨l, OR.below q1 hb6 (Nat.le_refl _), q2.off (hg6 none) (fun k e => by cases e), q3.trans (hg6 _), q4⟩
        clear D
        cases hob : opB ⟨xo, xa, xb, xc⟩ with
        | false =>
          go_wp2
          go_roundw
          case rel => exact ⟨k + 1, a, by omega, by go_num, rfl, D6.more (by omega)⟩
          case measure => (simp [intOf] <;> omega)
        | true =>
          go_wp2_with fail
          refine (pick_i D6.rd (by omega) _ (by decide) (by decide)).mono ?_
          rintro e w7 ⟨v7, rfl, hv7, hR7, hg, -, -⟩
          have D7 := D6.pick hR7 hg
          clear D6 hg hR7
          by_cases h7 : v7 = 0
          · subst h7
            go_wp2
            go_roundw
            case rel => exact ⟨k + 1, k, by omega, by go_num, rfl, D7.more (by omega)⟩
            case measure => (simp [intOf] <;> omega)
          · have h7b : ((v7 : Int) == 0) = false := by rw [beq_eq_false_iff_ne]; omega
            go_wp2
            go_roundw
            case rel => exact ⟨k + 1, a, by omega, by go_num, rfl, D7.more (by omega)⟩
            case measure => (simp [intOf] <;> omega)
      · go_wp2
        go_ret2
        exact ⟨_, _, _, _, rfl, hn, D.more (by omega)⟩
  · have h5b : ((v5 : Int) == 0) = false := by rw [beq_eq_false_iff_ne]; omega
    go_wp2
    go_ret2
    exact ⟨_, _, _, _, rfl, hn, D5.more (by omega)⟩