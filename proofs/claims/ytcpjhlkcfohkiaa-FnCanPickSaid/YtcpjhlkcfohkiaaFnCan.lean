/- FnCanPick: the walk of the law. -/
import Derived.Test.YtcpjhlkcfohkiaaSame
import Derived.Test.YtcpjhlkcfohkiaaPicks2
import Derived.Test.YtcpjhlkcfohkiaaExact1
import Derived.Test.YtcpjhlkcfohkiaaEnds
import Derived.Test.YtcpjhlkcfohkiaaBlocks
import Derived.Test.YtcpjhlkcfohkiaaLive0
namespace Go.Proofs.Ytcpjhlkcfohkiaa
open Go.RowKit
set_option linter.unusedVariables false
set_option linter.unusedSimpArgs false

def beL (l : List Cd) (k : Int) : Int × Int := if pv l && (inR k 0 (l.length - 1) && opB (cdAt l k.toNat)) then endOf l k.toNat else (-1, -1)

set_option maxRecDepth 100000 in
set_option maxHeartbeats 1600000 in
theorem iBlockEnd_c (A : Option Addr) (c : Nat) (l : List Cd) (k : Int) (w : World) (hA : RdC w w.heap.size A l) (hl : l.length ≤ 1000000000) :
    Calls Try.prog 33 #[.slice A l.length c, .int .i64 k] w fun e w' => e = .returned (.tuple #[.int .i64 (beL l k).1, .int .i64 (beL l k).2]) ∧ Below w.heap.size w w' := by
  cases ho : (pv l && (inR k 0 (l.length - 1) && opB (cdAt l k.toNat))) with
  | false =>
    have HB := Lib.hid (show beL l k = (-1, -1) by simp [beL, ho])
    go_enter Try.func33, Try.ntmps33
    go_wp2_with fail
    refine (opens_c A c l k w hA hl).mono ?_
    rintro e w1 ⟨rfl, hb1⟩
    rw [ho]
    go_wp2
    go_ret2
    rw [HB.out]
    exact ⟨rfl, hb1⟩
  | true =>
    have HB := Lib.hid (show beL l k = endOf l k.toNat by simp [beL, ho])
    have ho' := ho
    simp only [Bool.and_eq_true] at ho'
    obtain ⟨hp, hin, hop⟩ := ho'
    have hin' := inR_iff.1 hin
    obtain ⟨p, rfl⟩ : ∃ p : Nat, k = (p : Int) := ⟨k.toNat, by omega⟩
    have hpl : p < l.length := by omega
    have hpI : (p : Int) < (l.length : Int) := by omega
    have h40 := (pv_iff.1 hp).1
    have hop2 : opB (cdAt l p) = true := by simpa using hop
    have HO := Lib.hid hop2
    have HP := Lib.hid hp
    have HB2 := Lib.hid (show beL l p = endOf l p by rw [HB.out]; rfl)
    clear hin hin' hop hop2 HB
    go_enter Try.func33, Try.ntmps33
    go_wp2_with fail
    refine (opens_c A c l p w hA hl).mono ?_
    rintro e w1 ⟨rfl, hb1⟩
    rw [ho]
    clear ho hp
    go_wp2_with fail
    refine (blocks_c A c l w1 ((hA.below hb1).more hb1.size) (by omega) (pv_all HP.out)).mono ?_
    rintro e w2 ⟨hb2, hcase⟩
    rcases hcase with ⟨_, rfl, ga, oth, en, As, cs, hW, hPI⟩ | ⟨hp2, _⟩
    case inr => exact absurd (pv_iff.1 HP.out).2 hp2
    obtain ⟨b1, b2⟩ := hW.blk p hpl HO.out
    have hc := hPI.clo p hpl HO.out (by simp)
    have c0 : w2.cell? ⟨w1.heap.size + 1, p, none⟩ = some (.pointer (some ⟨ga p, 0, none⟩)) := by
      refine (OR.at0 hW.own).1 p _ ?_
      rw [ownRow_get _ _ _ _ hpl, if_pos hpl]
      simp [ownV, ownP, HO.out, ptrV]
    have c1 : w2.cell? ⟨ga p, 1, none⟩ = some (.int .i64 (endOf l p).2) := by rw [cell_of_heap b2, hc]; rfl
    have c2 : w2.cell? ⟨ga p, 2, none⟩ = some (.int .i64 (endOf l p).1) := by rw [cell_of_heap b2, hc]; rfl
    have hB := below_trans hb1 (Nat.le_refl _) hb2
    clear hW hPI b1 b2 hc hb1 hb2
    go_wp2_with fail
    go_quiet (fail)
    go_wp2
    go_ret2
    rw [HB2.out]
    exact ⟨rfl, hB.trans ⟨rfl, rfl, rfl, Nat.le_refl _, fun _ _ => rfl⟩⟩

theorem pick_end {l : List Cd} {k : Int} (h : canPick l k = true) : ∃ p : Nat, k = p ∧ p + 2 < l.length ∧ beL l k = ((p : Int) + 2, -1) ∧ (cdAt l p).op = 11 ∧ (cdAt l (p + 1)).op = 5 := by
  simp only [canPick, Bool.and_eq_true] at h
  obtain ⟨hp, hin, hpk⟩ := h
  have hin' := inR_iff.1 hin
  obtain ⟨p, rfl⟩ : ∃ p : Nat, k = (p : Int) := ⟨k.toNat, by omega⟩
  have hpl : p + 2 < l.length := by omega
  simp only [pickB, Bool.and_eq_true, beq_iff_eq, Int.toNat_natCast] at hpk
  obtain ⟨⟨h0, h1⟩, h2⟩ := hpk
  rw [← cdAt_op] at h0 h1 h2
  have hob : opB (cdAt l p) = true := by simp [opB, h0]
  have hir : inR (p : Int) 0 (l.length - 1) = true := inR_iff.2 ⟨by omega, by omega⟩
  refine ⟨p, rfl, hpl, ?_, h0, h1⟩
  have e1 : l.drop (p + 1) = cdAt l (p + 1) :: cdAt l (p + 2) :: l.drop (p + 3) := by
    rw [List.drop_eq_getElem_cons (by omega : p + 1 < l.length), List.drop_eq_getElem_cons (by omega : p + 1 + 1 < l.length)]
    simp [cdAt, List.getElem?_eq_getElem (by omega : p + 1 < l.length), List.getElem?_eq_getElem (by omega : p + 2 < l.length)]
  have o1 : opB (cdAt l (p + 1)) = false := by simp [opB, h1]
  have o2 : opB (cdAt l (p + 2)) = false := by simp [opB, h2]
  simp only [beL, hp, hir, Int.toNat_natCast, hob, Bool.and_self, if_true, endOf, e1, scanE, o1, o2, h1, h2]
  simp
  omega

def SpRel (w0 : World) (B g K : Nat) (A : Option Addr) (n c : Nat) (av kv : Value) (wr : World) : Prop :=
  ∃ (k : Nat) (a : Int), k ≤ n ∧ kv = .int .i64 k ∧ av = .int .i64 a ∧ DSx w0 B g (K + 3 + k) A n c wr

set_option maxRecDepth 100000 in
set_option maxHeartbeats 4000000 in
theorem l20Spot_c {w : World} {B g K : Nat} (h : RdS w B g K) (hK : K ≤ 100000) :
    Calls Try.prog 79 #[.pointer (some ⟨g, 0, none⟩)] w fun e w' => ∃ (A : Option Addr) (n c : Nat) (a : Int), e = .returned (.tuple #[.slice A n c, .int .i64 a]) ∧ n ≤ 200000 ∧ DSx w B g (K + 900000) A n c w' := by
  go_enter Try.func79, Try.ntmps79
  go_wp2_with fail
  refine (l20Program_c h (by omega) 14 (by omega)).mono ?_
  rintro e w2 ⟨A, n, c, rfl, hn, D2⟩
  clear h
  go_wp2_with fail
  refine (pick_i D2.rd (by omega) _ (by omega) (by omega)).mono ?_
  rintro e w3 ⟨v3, rfl, hv3, hR3, hg, -, -⟩
  have D3 := D2.pick hR3 hg
  clear D2 hg hR3
  go_wp2_with fail
  refine (pick_i D3.rd (by omega) _ (by decide) (by decide)).mono ?_
  rintro e w4 ⟨v4, rfl, hv4, hR4, hg, -, -⟩
  have D4 := D3.pick hR4 hg
  clear D3 hg hR4
  go_wp2_with fail
  refine (pick_i D4.rd (by omega) _ (by decide) (by decide)).mono ?_
  rintro e w5 ⟨v5, rfl, hv5, hR5, hg, -, -⟩
  have D5 := D4.pick hR5 hg
  clear D4 hg hR5
  by_cases h5 : v5 = 0
  · subst h5
    go_wp2
    go_loopw [5, 6] (fun av kv wr => SpRel w B g (K + 500000) A n c av kv wr) (fun _ kv _ => n - (intOf kv).toNat)
    case atStart => exact ⟨0, _, Nat.zero_le _, rfl, rfl, D5.more (by omega)⟩
    case round =>
      clear D5
      obtain ⟨k, a, hk, rfl, rfl, D⟩ := hrel
      by_cases hlt : k < n
      · obtain ⟨l, hll, hrd, -⟩ := D.reads
        obtain ⟨b, off, x, rfl, hbB, hx, c0, c1, c2, c3⟩ := hrd.at_ (show k < l.length by omega)
        obtain ⟨xo, xa, xb, xc⟩ := x
        have hkI : (k : Int) < (n : Int) := by omega
        clear hx hrd
        go_wp2_with fail
        refine (l4Opens_c ⟨xo, xa, xb, xc⟩ _).mono ?_
        rintro e w6 ⟨rfl, hb6⟩
        have D6 : DSx w B g (K + 500000 + 3 + k) (some ⟨b, off, none⟩) n c w6 := by
          obtain ⟨l, q1, q2, q3, q4⟩ := D
          have hg6 : ∀ row, wr.grownBy w6 row := fun row => ⟨hb6.os, hb6.tape, hb6.output, hb6.size, fun k hk _ => hb6.block k hk⟩
          exact ⟨l, OR.below q1 hb6 (Nat.le_refl _), q2.off (hg6 none) (fun k e => by cases e), q3.trans (hg6 _), q4⟩
        clear D
        cases hob : opB ⟨xo, xa, xb, xc⟩ with
        | false =>
          go_wp2
          go_roundw
          case rel => exact ⟨k + 1, a, by omega, by go_num, rfl, D6.more (by omega)⟩
          case measure => (simp [intOf] <;> omega)
        | true =>
          go_wp2_with fail
          refine (pick_i D6.rd (by omega) _ (by decide) (by decide)).mono ?_
          rintro e w7 ⟨v7, rfl, hv7, hR7, hg, -, -⟩
          have D7 := D6.pick hR7 hg
          clear D6 hg hR7
          by_cases h7 : v7 = 0
          · subst h7
            go_wp2
            go_roundw
            case rel => exact ⟨k + 1, k, by omega, by go_num, rfl, D7.more (by omega)⟩
            case measure => (simp [intOf] <;> omega)
          · have h7b : ((v7 : Int) == 0) = false := by rw [beq_eq_false_iff_ne]; omega
            go_wp2
            go_roundw
            case rel => exact ⟨k + 1, a, by omega, by go_num, rfl, D7.more (by omega)⟩
            case measure => (simp [intOf] <;> omega)
      · go_wp2
        go_ret2
        exact ⟨_, _, _, _, rfl, hn, D.more (by omega)⟩
  · have h5b : ((v5 : Int) == 0) = false := by rw [beq_eq_false_iff_ne]; omega
    go_wp2
    go_ret2
    exact ⟨_, _, _, _, rfl, hn, D5.more (by omega)⟩

theorem drawCanPick_c (A : Option Addr) (c : Nat) (bs : List Int) (w : World) (hA : Reads w w.heap.size 1 A bs.length (bs.map (.int .u8))) (hb : ∀ x ∈ bs, 0 ≤ x ∧ x ≤ 255) (hl : bs.length ≤ 9223372036854775807) (hcap : bs.length ≤ c) :
    Calls Try.prog 30 #[.slice A bs.length c] w fun e w' => ∃ (l : List Cd) (A' : Option Addr) (c' : Nat) (a : Int), e = .returned (.tuple #[.slice A' l.length c', .int .i64 a]) ∧ l.length ≤ 200000 ∧ OC w' w.heap.size A' l.length c' l ∧ Below w.heap.size w w' := by
  go_enter Try.func30, Try.ntmps30
  go_wp2_with fail
  refine (l20Open_c A c bs w hA hb hl hcap).mono ?_
  rintro e w1 ⟨rfl, hR, hB, hs⟩
  go_wp2_with fail
  refine (l20Spot_c hR (by omega)).mono ?_
  rintro e w2 ⟨A2, n2, c2, a, rfl, hn2, D2⟩
  obtain ⟨l, h1, h2, h3, h4⟩ := D2
  have hll := OC.len h1
  subst hll
  have hB5 := hB.grown h3 hB.size (fun k e => by cases e; exact Nat.le_refl _)
  go_wp2
  go_ret2
  exact ⟨l, A2, c2, a, rfl, hn2, OR.mono h1 hB.size, hB5⟩

set_option maxRecDepth 100000 in
set_option maxHeartbeats 4000000 in
theorem fnCanPick_c (w : World) (A : Option Addr) (c : Nat) (bs : List Int) (hA : Reads w w.heap.size 1 A bs.length (bs.map (.int .u8))) (hl : bs.length ≤ 9223372036854775807) (hb : ∀ x ∈ bs, 0 ≤ x ∧ x ≤ 255) (hcap : bs.length ≤ c) :
    Calls Try.prog 6 #[.slice A bs.length c] w fun e w' => e = .returned (.bool true) ∧ Below w.heap.size w w' := by
  by_cases hbig : 1048576 < bs.length
  · go_enter Try.func6, Try.ntmps6
    go_wp2
    go_ret
    exact ⟨rfl, Below.refl _ _⟩
  · go_enter Try.func6, Try.ntmps6
    go_wp2_with fail
    refine (drawCanPick_c A c bs w hA hb hl hcap).mono ?_
    rintro e w1 ⟨l, A1, c1, a, rfl, hl2, o1, hB⟩
    have r1 := OC.rd o1
    go_wp2_with fail
    refine (iCanPick_c A1 c1 l a w1 r1 (by omega)).mono ?_
    rintro e w2 ⟨rfl, b2⟩
    replace r1 := (r1.below b2).more b2.size
    replace hB := below_trans hB (Nat.le_refl _) b2
    go_wp2_with fail
    refine (sCanPick_c A1 c1 l a w2 r1 (by omega)).mono ?_
    rintro e w3 ⟨rfl, b3⟩
    replace r1 := (r1.below b3).more b3.size
    replace hB := below_trans hB (Nat.le_refl _) b3
    have hne : (canPick l a != canPick l a) = false := by simp
    cases hc : canPick l a with
    | false =>
      go_wp2_with fail
      refine (iBlockEnd_c A1 c1 l a w3 r1 (by omega)).mono ?_
      rintro e w4 ⟨rfl, b4⟩
      replace hB := below_trans hB (Nat.le_refl _) b4
      go_wp2_with fail
      refine (alive_c _).mono ?_
      rintro e w5 ⟨rfl, rfl⟩
      go_wp2
      go_ret
      exact ⟨rfl, hB⟩
    | true =>
      obtain ⟨p, rfl, hpl, hbe, h0, h1⟩ := pick_end hc
      go_wp2_with fail
      refine (iBlockEnd_c A1 c1 l p w3 r1 (by omega)).mono ?_
      rintro e w4 ⟨rfl, b4⟩
      replace r1 := (r1.below b4).more b4.size
      replace hB := below_trans hB (Nat.le_refl _) b4
      rw [hbe]
      have hx0 : l[p]? = some (cdAt l p) := by unfold cdAt; rw [List.getElem?_eq_getElem (by omega)]
      have hx1 : l[p + 1]? = some (cdAt l (p + 1)) := by unfold cdAt; rw [List.getElem?_eq_getElem (by omega)]
      obtain ⟨b, off, rfl⟩ : ∃ b off, A1 = some ⟨b, off, none⟩ := by
        obtain ⟨b, off, y, e, _⟩ := r1.at_ (show p < l.length by omega)
        exact ⟨b, off, e⟩
      have c0 := (RdC.at0 r1 hx0).2.1
      have c1' := (RdC.at0 r1 hx1).2.1
      rw [h0] at c0
      rw [h1] at c1'
      have i0 : (p : Int) < (l.length : Int) := by omega
      have i1 : (p : Int) + 1 < (l.length : Int) := by omega
      have q1 : IntKind.i64.wrap ((p : Int) + 2) = (p : Int) + 2 := IntWalk.i64_in _ (by omega)
      have q2 : IntKind.i64.wrap ((p : Int) + 1) = (p : Int) + 1 := IntWalk.i64_in _ (by omega)
      clear hc hbe h0 h1 hx0 hx1
      go_wp2_with fail
      refine (alive_c _).mono ?_
      rintro e w5 ⟨rfl, rfl⟩
      go_wp2
      go_ret
      exact ⟨rfl, hB⟩
end Go.Proofs.Ytcpjhlkcfohkiaa
