/- FnGroupsMany, FnGroupMask: the walks of the laws. -/
import Derived.Test.YtcpjhlkcfohkiaaDraw
import Derived.Test.YtcpjhlkcfohkiaaGroups2
namespace Go.Proofs.Ytcpjhlkcfohkiaa
open Go.RowKit
set_option linter.unusedVariables false
set_option linter.unusedSimpArgs false

theorem iMaskAll2_c (n : Int) (w : World) :
    Calls Try.prog 29 #[.int .i64 n] w fun e w' => e = .returned (.int .i64 (maskAllI n)) ∧ w = w' := by
  cases h : inR n 1 8 with
  | false =>
    go_enter Try.func29, Try.ntmps29
    go_wp2_with (go_at_call 75; refine (isLanes_c _ _).mono ?_; rintro e w' ⟨rfl, rfl⟩)
    go_ret
    exact ⟨reti (by simp [maskAllI, h]), rfl⟩
  | true =>
    have h' := inR_iff.1 h
    have h8 : n = 1 ∨ n = 2 ∨ n = 3 ∨ n = 4 ∨ n = 5 ∨ n = 6 ∨ n = 7 ∨ n = 8 := by omega
    clear h h'
    rcases h8 with rfl | rfl | rfl | rfl | rfl | rfl | rfl | rfl
    all_goals
      go_enter Try.func29, Try.ntmps29
      go_wp2_with (go_at_call 75; refine (isLanes_c _ _).mono ?_; rintro e w' ⟨rfl, rfl⟩)
      go_ret
      exact ⟨reti (by decide), rfl⟩
theorem alive_c (w : World) : Calls Try.prog 25 #[] w fun e w' => e = .returned (.bool true) ∧ w = w' := by
  have h7 : maskAllI 3 = 7 := by decide
  go_enter Try.func25, Try.ntmps25
  go_wp2_with (go_at_call 29; refine (iMaskAll2_c _ _).mono ?_; rintro e w' ⟨rfl, rfl⟩)
  go_ret
  exact ⟨rfl, rfl⟩

theorem drawGroupsMany_c (A : Option Addr) (c : Nat) (bs : List Int) (w : World) (hA : Reads w w.heap.size 1 A bs.length (bs.map (.int .u8))) (hb : ∀ x ∈ bs, 0 ≤ x ∧ x ≤ 255) (hl : bs.length ≤ 9223372036854775807) (hcap : bs.length ≤ c) :
    Calls Try.prog 22 #[.slice A bs.length c] w fun e w' => ∃ a b : Int, e = .returned (.tuple #[.int .i64 a, .int .i64 b]) ∧ (-1 ≤ a ∧ a ≤ 9) ∧ (-1 ≤ b ∧ b ≤ 9) ∧ Below w.heap.size w w' := by
  go_enter Try.func22, Try.ntmps22
  go_wp2_with fail
  refine (l20Open_c A c bs w hA hb hl hcap).mono ?_
  rintro e w1 ⟨rfl, hR, hB, hs⟩
  go_wp2_with fail
  refine (pick_i hR (by omega) _ (by decide) (by decide)).mono ?_
  rintro e w2 ⟨v, rfl, hv, hR2, hg2, hs2, -⟩
  have hB2 := hB.grown hg2 (by omega) (fun k e => by cases e; exact Nat.le_refl _)
  have q1 : IntKind.i64.wrap ((v : Int) - 1) = (v : Int) - 1 := IntWalk.i64_in _ (by omega)
  go_wp2_with fail
  refine (pick_i hR2 (by omega) _ (by decide) (by decide)).mono ?_
  rintro e w3 ⟨u, rfl, hu, hR3, hg3, hs3, -⟩
  have hB3 := hB2.grown hg3 (by omega) (fun k e => by cases e; exact Nat.le_refl _)
  have q2 : IntKind.i64.wrap ((u : Int) - 1) = (u : Int) - 1 := IntWalk.i64_in _ (by omega)
  go_wp2
  go_ret2
  exact ⟨_, _, rfl, by omega, by omega, hB3⟩

theorem drawGroupMask_c (A : Option Addr) (c : Nat) (bs : List Int) (w : World) (hA : Reads w w.heap.size 1 A bs.length (bs.map (.int .u8))) (hb : ∀ x ∈ bs, 0 ≤ x ∧ x ≤ 255) (hl : bs.length ≤ 9223372036854775807) (hcap : bs.length ≤ c) :
    Calls Try.prog 26 #[.slice A bs.length c] w fun e w' => ∃ a b k : Int, e = .returned (.tuple #[.int .i64 a, .int .i64 b, .int .i64 k]) ∧ (-1 ≤ a ∧ a ≤ 9) ∧ (1 ≤ b ∧ b ≤ 8) ∧ (-1 ≤ k ∧ k ≤ 4) ∧ Below w.heap.size w w' := by
  go_enter Try.func26, Try.ntmps26
  go_wp2_with fail
  refine (l20Open_c A c bs w hA hb hl hcap).mono ?_
  rintro e w1 ⟨rfl, hR, hB, hs⟩
  go_wp2_with fail
  refine (pick_i hR (by omega) _ (by decide) (by decide)).mono ?_
  rintro e w2 ⟨v1, rfl, hv1, hR2, hg2, hs2, -⟩
  have hB2 := hB.grown hg2 (by omega) (fun k e => by cases e; exact Nat.le_refl _)
  go_wp2_with fail
  refine (pick_i hR2 (by omega) _ (by decide) (by decide)).mono ?_
  rintro e w3 ⟨v2, rfl, hv2, hR3, hg3, hs3, -⟩
  have hB3 := hB2.grown hg3 (by omega) (fun k e => by cases e; exact Nat.le_refl _)
  go_wp2_with fail
  refine (pick_i hR3 (by omega) _ (by decide) (by decide)).mono ?_
  rintro e w4 ⟨v3, rfl, hv3, hR4, hg4, hs4, -⟩
  have hB4 := hB3.grown hg4 (by omega) (fun k e => by cases e; exact Nat.le_refl _)
  go_wp2_with fail
  refine (pick_i hR4 (by omega) _ (by decide) (by decide)).mono ?_
  rintro e w5 ⟨v4, rfl, hv4, hR5, hg5, hs5, -⟩
  have hB5 := hB4.grown hg5 (by omega) (fun k e => by cases e; exact Nat.le_refl _)
  go_wp2_with fail
  refine (pick_i hR5 (by omega) _ (by decide) (by decide)).mono ?_
  rintro e w6 ⟨v5, rfl, hv5, hR6, hg6, hs6, -⟩
  have hB6 := hB5.grown hg6 (by omega) (fun k e => by cases e; exact Nat.le_refl _)
  go_wp2
  go_ret3
  refine ⟨_, _, _, rfl, by omega, by omega, by omega, hB6⟩

theorem grMany_law {a b : Int} (h : ¬ grMany a b < 0) : a ≤ grMany a b * b ∧ (grMany a b - 1) * b < a ∧ grMany a 1 = a ∧ 1 ≤ a ∧ a ≤ 8 ∧ 1 ≤ b ∧ b ≤ 8 ∧ 1 ≤ grMany a b ∧ grMany a b ≤ 8 ∧ -64 ≤ (grMany a b - 1) * b ∧ grMany a b * b ≤ 64 := by
  cases h1 : inR a 1 8 with
  | false => exact absurd (by simp [grMany, h1]) h
  | true =>
    cases h2 : inR b 1 8 with
    | false => exact absurd (by simp [grMany, h2]) h
    | true =>
      have h1' := inR_iff.1 h1
      have h2' := inR_iff.1 h2
      have ha : a = 1 ∨ a = 2 ∨ a = 3 ∨ a = 4 ∨ a = 5 ∨ a = 6 ∨ a = 7 ∨ a = 8 := by omega
      have hb : b = 1 ∨ b = 2 ∨ b = 3 ∨ b = 4 ∨ b = 5 ∨ b = 6 ∨ b = 7 ∨ b = 8 := by omega
      clear h h1 h2 h1' h2'
      rcases ha with rfl | rfl | rfl | rfl | rfl | rfl | rfl | rfl <;> rcases hb with rfl | rfl | rfl | rfl | rfl | rfl | rfl | rfl <;> decide
theorem grMany_neg {a b : Int} (h : grMany a b < 0) : grMany a b = -1 := by
  have := (grMany_bd a b).1
  omega

set_option maxRecDepth 100000 in
set_option maxHeartbeats 2000000 in
theorem fnGroupsMany_c (w : World) (A : Option Addr) (c : Nat) (bs : List Int) (hA : Reads w w.heap.size 1 A bs.length (bs.map (.int .u8))) (hl : bs.length ≤ 9223372036854775807) (hb : ∀ x ∈ bs, 0 ≤ x ∧ x ≤ 255) (hcap : bs.length ≤ c) :
    Calls Try.prog 4 #[.slice A bs.length c] w fun e w' => e = .returned (.bool true) ∧ Below w.heap.size w w' := by
  by_cases hbig : 1048576 < bs.length
  · go_enter Try.func4, Try.ntmps4
    go_wp2
    go_ret
    exact ⟨rfl, Below.refl _ _⟩
  · go_enter Try.func4, Try.ntmps4
    go_wp2_with fail
    refine (drawGroupsMany_c A c bs w hA hb hl hcap).mono ?_
    rintro e w1 ⟨a, b, rfl, ha, hb', hB⟩
    go_wp2_with fail
    refine (iGroupsMany_c a b w1).mono ?_
    rintro e w2 ⟨rfl, rfl⟩
    go_wp2_with fail
    refine (sGroupsMany_c a b w1).mono ?_
    rintro e w2 ⟨rfl, rfl⟩
    by_cases hn : grMany a b < 0
    · have h1 := grMany_neg hn
      rw [h1]
      go_wp2_with fail
      refine (alive_c w1).mono ?_
      rintro e w2 ⟨rfl, rfl⟩
      go_wp2
      go_ret
      exact ⟨rfl, hB⟩
    · obtain ⟨g1, g2, g3, g4, g5, g6, g7, g8, g9, g10, g11⟩ := grMany_law hn
      have G3 := Lib.hid g3
      clear g3
      generalize hr : grMany a b = r at *
      have e1 : (r != r) = false := by simp
      obtain ⟨X, hX⟩ : ∃ X, r * b = X := ⟨_, rfl⟩
      obtain ⟨Y, hY⟩ : ∃ Y, (r - 1) * b = Y := ⟨_, rfl⟩
      rw [hX] at g1 g11
      rw [hY] at g2 g10
      go_wp2_with fail
      refine (iGroupsMany_c a 1 w1).mono ?_
      rintro e w2 ⟨rfl, rfl⟩
      rw [G3.out]
      go_wp2
      go_ret
      exact ⟨rfl, hB⟩

def allTo (a b : Nat) : Nat → Nat
  | 0 => 0
  | j + 1 => allTo a b j ||| gMask a b j
theorem gMask_law : ∀ a b : Fin 9, 1 ≤ a.val → 1 ≤ b.val → ∀ j : Fin 9, (j.val : Int) < grMany a.val b.val → 1 ≤ gMask a.val b.val j.val ∧ gMask a.val b.val j.val < 256 ∧ allTo a.val b.val j.val < 256 ∧ allTo a.val b.val j.val &&& gMask a.val b.val j.val = 0 := by decide +kernel
theorem gMask_all : ∀ a b : Fin 9, 1 ≤ a.val → 1 ≤ b.val → ((allTo a.val b.val (grMany a.val b.val).toNat : Nat) : Int) = maskAllI a.val := by decide +kernel
theorem grMask_neg {a b k : Int} (h : grMask a b k < 0) : grMask a b k = -1 := by
  unfold grMask at h ⊢
  split
  · rename_i h2
    rw [if_pos h2] at h
    omega
  · rfl
theorem grMask_pos {a b k : Int} (h : ¬ grMask a b k < 0) : ∃ x y : Nat, a = x ∧ b = y ∧ 1 ≤ x ∧ x ≤ 8 ∧ 1 ≤ y ∧ y ≤ 8 := by
  have h2 : inR k 0 (grMany a b - 1) = true := by
    cases h2 : inR k 0 (grMany a b - 1) with
    | true => rfl
    | false => exact absurd (by simp [grMask, h2]) h
  have h3 : ¬ grMany a b < 0 := by have := inR_iff.1 h2; omega
  obtain ⟨-, -, -, h4, h5, h6, h7, -⟩ := grMany_law h3
  exact ⟨a.toNat, b.toNat, by omega, by omega, by omega, by omega, by omega, by omega⟩

def GMRel (a b : Nat) (w : World) (av kv : Value) (wr : World) : Prop := ∃ j : Nat, (j : Int) ≤ grMany a b ∧ kv = .int .i64 j ∧ av = .int .i64 (allTo a b j) ∧ wr = w

set_option maxRecDepth 100000 in
set_option maxHeartbeats 2000000 in
theorem fnGroupMask_c (w : World) (A : Option Addr) (c : Nat) (bs : List Int) (hA : Reads w w.heap.size 1 A bs.length (bs.map (.int .u8))) (hl : bs.length ≤ 9223372036854775807) (hb : ∀ x ∈ bs, 0 ≤ x ∧ x ≤ 255) (hcap : bs.length ≤ c) :
    Calls Try.prog 5 #[.slice A bs.length c] w fun e w' => e = .returned (.bool true) ∧ Below w.heap.size w w' := by
  by_cases hbig : 1048576 < bs.length
  · go_enter Try.func5, Try.ntmps5
    go_wp2
    go_ret
    exact ⟨rfl, Below.refl _ _⟩
  · go_enter Try.func5, Try.ntmps5
    go_wp2_with fail
    refine (drawGroupMask_c A c bs w hA hb hl hcap).mono ?_
    rintro e w1 ⟨a, b, k, rfl, ha, hb', hk, hB⟩
    go_wp2_with fail
    refine (iGroupMask_c a b k w1).mono ?_
    rintro e w2 ⟨rfl, rfl⟩
    go_wp2_with fail
    refine (sGroupMask_c a b k w1).mono ?_
    rintro e w2 ⟨rfl, rfl⟩
    by_cases hn : grMask a b k < 0
    · have h1 := grMask_neg hn
      rw [h1]
      go_wp2_with fail
      refine (alive_c w1).mono ?_
      rintro e w2 ⟨rfl, rfl⟩
      go_wp2
      go_ret
      exact ⟨rfl, hB⟩
    · obtain ⟨x, y, rfl, rfl, x1, x8, y1, y8⟩ := grMask_pos hn
      have HL := Lib.hid (fun j (h : j < 9) => gMask_law ⟨x, by omega⟩ ⟨y, by omega⟩ x1 y1 ⟨j, h⟩)
      have HA := Lib.hid (gMask_all ⟨x, by omega⟩ ⟨y, by omega⟩ x1 y1)
      have hgm := (grMany_bd x y).2
      have hg0 : 0 ≤ grMany x y := by
        have h := grMany_bd x y
        have : inR (x : Int) 1 8 = true := inR_iff.2 ⟨by omega, by omega⟩
        have h2 : inR (y : Int) 1 8 = true := inR_iff.2 ⟨by omega, by omega⟩
        simp only [grMany, this, h2, Bool.and_self, if_true]
        exact Int.ediv_nonneg (by omega) (by omega)
      have hne : (grMask x y k != grMask x y k) = false := by simp
      generalize grMask x y k = mm at *
      go_wp2
      go_loopw [7, 8] (fun av kv wr => GMRel x y w1 av kv wr) (fun _ kv _ => 8 - (intOf kv).toNat)
      case atStart => exact ⟨0, hg0, rfl, rfl, rfl⟩
      case round =>
        obtain ⟨j, hj, rfl, rfl, rfl⟩ := hrel
        by_cases hlt : (j : Int) < grMany x y
        · obtain ⟨l1, l2, l3, l4⟩ := HL.out j (by omega) hlt
          have hin : inR (j : Int) 0 (grMany x y - 1) = true := inR_iff.2 ⟨by omega, by omega⟩
          have hme := Lib.hid (grMask_eq hin)
          have hAT := Lib.hid (show allTo x y (j + 1) = allTo x y j ||| gMask x y j from rfl)
          have ha0 : bits .and .i64 (allTo x y j : Int) (gMask x y j : Int) = 0 := by rw [bits_and64 _ _ (by omega) (by omega), l4]; rfl
          have ho0 : bits .or .i64 (allTo x y j : Int) (gMask x y j : Int) = ((allTo x y (j + 1) : Nat) : Int) := by rw [bits_or64 _ _ (by omega) (by omega)]; rfl
          have HIM := Lib.hid (fun W => iGroupMask_c x y j W)
          have HIG := Lib.hid (fun W => iGroupsMany_c x y W)
          clear hin l4
          generalize gMask x y j = gm at *
          generalize allTo x y j = at_ at *
          go_wp2_with fail
          refine (HIG.out _).mono ?_
          rintro e w2 ⟨rfl, rfl⟩
          go_wp2_with fail
          refine (HIM.out _).mono ?_
          rintro e w2 ⟨rfl, rfl⟩
          rw [hme.out]
          go_wp2
          go_roundw
          case rel => exact ⟨j + 1, by omega, by go_num, rfl, rfl⟩
          case measure => simp [intOf]; omega
        · have hjj : (grMany x y).toNat = j := by omega
          have HA2 := HA.out
          simp only [hjj] at HA2
          have HIG := Lib.hid (fun W => iGroupsMany_c x y W)
          have HMA := Lib.hid HA2
          go_wp2_with fail
          refine (HIG.out _).mono ?_
          rintro e w2 ⟨rfl, rfl⟩
          go_wp2_with fail
          refine (iMaskAll2_c x _).mono ?_
          rintro e w2 ⟨rfl, rfl⟩
          rw [← HMA.out]
          go_wp2
          go_ret
          exact ⟨by simp, hB⟩
end Go.Proofs.Ytcpjhlkcfohkiaa
