/- FnSwapRegs: the walk of the law. -/
import Derived.Test.YtcpjhlkcfohkiaaSame
import Derived.Test.YtcpjhlkcfohkiaaNames4
import Derived.Test.YtcpjhlkcfohkiaaSwapLaw
namespace Go.Proofs.Ytcpjhlkcfohkiaa
open Go.RowKit
set_option linter.unusedVariables false
set_option linter.unusedSimpArgs false

set_option maxRecDepth 100000 in
set_option maxHeartbeats 1600000 in
theorem sameCodes_c (A A2 : Option Addr) (c c2 : Nat) (l : List Cd) (w : World) (hA : RdC w w.heap.size A l) (hA2 : RdC w w.heap.size A2 l) (hl : l.length ≤ 1000000000) :
    Calls Try.prog 40 #[.slice A l.length c, .slice A2 l.length c2] w fun e w' => e = .returned (.bool true) ∧ Below w.heap.size w w' := by
  go_enter Try.func40, Try.ntmps40
  go_wp2
  go_loopw [5] (fun i wr => ∃ k : Nat, k ≤ l.length ∧ i = .int .i64 k ∧ Below w.heap.size w wr) (fun i _ => l.length - (intOf i).toNat)
  case atStart => exact ⟨0, Nat.zero_le _, rfl, Below.refl _ _⟩
  case round =>
    obtain ⟨k, hk, rfl, hb⟩ := hrel
    by_cases hlt : k < l.length
    · obtain ⟨b, off, x, rfl, hbB, hx, c0, c1, c2', c3⟩ := (hA.below hb).at_ hlt
      obtain ⟨b2, off2, y, rfl, hbB2, hy, d0, d1, d2, d3⟩ := (hA2.below hb).at_ hlt
      rw [hx] at hy
      injection hy with hy
      subst hy
      clear hx
      go_wp2_with fail
      go_quiet (fail)
      go_wp2
      go_roundw
      case rel => exact ⟨k + 1, by omega, by go_num, hb.trans ⟨rfl, rfl, rfl, Nat.le_refl _, fun _ _ => rfl⟩⟩
      case measure => simp [intOf]; omega
    · go_wp2
      go_ret
      exact ⟨rfl, hb⟩

theorem drawSwapRegs_c (A : Option Addr) (c : Nat) (bs : List Int) (w : World) (hA : Reads w w.heap.size 1 A bs.length (bs.map (.int .u8))) (hb : ∀ x ∈ bs, 0 ≤ x ∧ x ≤ 255) (hl : bs.length ≤ 9223372036854775807) (hcap : bs.length ≤ c) :
    Calls Try.prog 38 #[.slice A bs.length c] w fun e w' => ∃ (l : List Cd) (A' : Option Addr) (c' : Nat) (a b : Int), e = .returned (.tuple #[.slice A' l.length c', .int .i64 a, .int .i64 b]) ∧ l.length ≤ 200000 ∧ OC w' w.heap.size A' l.length c' l ∧ Below w.heap.size w w' := by
  go_enter Try.func38, Try.ntmps38
  go_wp2_with fail
  refine (l20Open_c A c bs w hA hb hl hcap).mono ?_
  rintro e w1 ⟨rfl, hR, hB, hs⟩
  go_wp2_with fail
  refine (l20Program_c hR (by omega) 14 (by omega)).mono ?_
  rintro e w2 ⟨A2, n2, c2, rfl, hn2, D2⟩
  go_wp2_with fail
  refine (pick_i D2.rd (by omega) _ (by decide) (by decide)).mono ?_
  rintro e w3 ⟨v3, rfl, hv3, hR3, hg, -, -⟩
  have D3 := D2.pick hR3 hg
  clear D2 hg
  go_wp2_with fail
  refine (pick_i D3.rd (by omega) _ (by decide) (by decide)).mono ?_
  rintro e w4 ⟨v4, rfl, hv4, hR4, hg, -, -⟩
  have D4 := D3.pick hR4 hg
  clear D3 hg
  go_wp2_with fail
  refine (pick_i D4.rd (by omega) _ (by decide) (by decide)).mono ?_
  rintro e w5 ⟨v5, rfl, hv5, hR5, hg, -, -⟩
  have D5 := D4.pick hR5 hg
  clear D4 hg
  obtain ⟨l, h1, h2, h3, h4⟩ := D5
  have hll := OC.len h1
  subst hll
  have hB5 := hB.grown h3 hB.size (fun k e => by cases e; exact Nat.le_refl _)
  go_wp2
  go_ret3
  exact ⟨l, A2, c2, _, _, rfl, hn2, OR.mono h1 hB.size, hB5⟩

set_option maxRecDepth 100000 in
set_option maxHeartbeats 4000000 in
theorem fnSwapRegs_c (w : World) (A : Option Addr) (c : Nat) (bs : List Int) (hA : Reads w w.heap.size 1 A bs.length (bs.map (.int .u8))) (hl : bs.length ≤ 9223372036854775807) (hb : ∀ x ∈ bs, 0 ≤ x ∧ x ≤ 255) (hcap : bs.length ≤ c) :
    Calls Try.prog 8 #[.slice A bs.length c] w fun e w' => e = .returned (.bool true) ∧ Below w.heap.size w w' := by
  by_cases hbig : 1048576 < bs.length
  · go_enter Try.func8, Try.ntmps8
    go_wp2
    go_ret
    exact ⟨rfl, Below.refl _ _⟩
  · go_enter Try.func8, Try.ntmps8
    go_wp2_with fail
    refine (drawSwapRegs_c A c bs w hA hb hl hcap).mono ?_
    rintro e w1 ⟨l, A1, c1, a, b, rfl, hl2, o1, hB⟩
    have r1 := OC.rd o1
    have hlen := swapL_len l a b
    go_wp2_with fail
    refine (iSwapRegs_c A1 c1 l a b w1 r1 (by omega)).mono ?_
    rintro e w2 ⟨A2, c2, rfl, o2, b2⟩
    have r2 := OwC.rd o2
    replace r1 := (r1.below b2).more b2.size
    replace hB := below_trans hB (Nat.le_refl _) b2
    go_wp2_with fail
    refine (sSwapRegs_c A1 c1 l a b w2 r1 (by omega)).mono ?_
    rintro e w3 ⟨A3, c3, rfl, o3, b3⟩
    have r3 := OwC.rd o3
    replace r1 := (r1.below b3).more b3.size
    replace r2 := (r2.below b3).more b3.size
    replace hB := below_trans hB (Nat.le_refl _) b3
    go_wp2_with fail
    refine (sameCodes_c A2 A3 c2 c3 _ w3 r2 r3 (by omega)).mono ?_
    rintro e w4 ⟨rfl, b4⟩
    replace r1 := (r1.below b4).more b4.size
    replace r2 := (r2.below b4).more b4.size
    replace hB := below_trans hB (Nat.le_refl _) b4
    clear r3 o1 o2 o3 b2 b3 b4
    by_cases h0 : (swapL l a b).length = 0
    · rw [h0]
      go_wp2_with fail
      refine (alive_c w4).mono ?_
      rintro e w5 ⟨rfl, rfl⟩
      go_wp2
      go_ret
      exact ⟨rfl, hB⟩
    · obtain ⟨q1, q2, q3⟩ := swap_law (l := l) (a := a) (b := b) (fun e => h0 (by rw [e]; rfl))
      have Q1 := Lib.hid q1
      have Q2 := Lib.hid q2
      have Q3 := Lib.hid q3
      clear q1 q2 q3
      obtain ⟨x, hx⟩ : ∃ x, swapL l a b = x := ⟨_, rfl⟩
      rw [hx] at Q1 Q2 r2 hlen h0 ⊢
      go_wp2_with fail
      refine (iSwapRegs_c A2 c2 x a b w4 r2 (by omega)).mono ?_
      rw [Q1.out]
      rintro e w5 ⟨A5, c5, rfl, o5, b5⟩
      have r5 := OwC.rd o5
      replace r1 := (r1.below b5).more b5.size
      replace r2 := (r2.below b5).more b5.size
      replace hB := below_trans hB (Nat.le_refl _) b5
      go_wp2_with fail
      refine (sameCodes_c A5 A1 c5 c1 l w5 r5 r1 (by omega)).mono ?_
      rintro e w6 ⟨rfl, b6⟩
      replace r1 := (r1.below b6).more b6.size
      replace r2 := (r2.below b6).more b6.size
      replace hB := below_trans hB (Nat.le_refl _) b6
      clear r5 o5 b5 b6
      go_wp2_with fail
      refine (iSwapRegs_c A1 c1 l b a w6 r1 (by omega)).mono ?_
      rw [Q2.out]
      rintro e w7 ⟨A7, c7, rfl, o7, b7⟩
      have r7 := OwC.rd o7
      replace r1 := (r1.below b7).more b7.size
      replace r2 := (r2.below b7).more b7.size
      replace hB := below_trans hB (Nat.le_refl _) b7
      go_wp2_with fail
      refine (sameCodes_c A7 A2 c7 c2 x w7 r7 r2 (by omega)).mono ?_
      rintro e w8 ⟨rfl, b8⟩
      replace r1 := (r1.below b8).more b8.size
      replace hB := below_trans hB (Nat.le_refl _) b8
      clear r7 o7 b7 b8 r2
      go_wp2_with fail
      refine (iSwapRegs_c A1 c1 l a a w8 r1 (by omega)).mono ?_
      rw [Q3.out]
      rintro e w9 ⟨A9, c9, rfl, o9, b9⟩
      have r9 := OwC.rd o9
      replace r1 := (r1.below b9).more b9.size
      replace hB := below_trans hB (Nat.le_refl _) b9
      go_wp2_with fail
      refine (sameCodes_c A9 A1 c9 c1 l w9 r9 r1 (by omega)).mono ?_
      rintro e w10 ⟨rfl, b10⟩
      replace hB := below_trans hB (Nat.le_refl _) b10
      go_wp2
      go_ret
      exact ⟨rfl, hB⟩
end Go.Proofs.Ytcpjhlkcfohkiaa
