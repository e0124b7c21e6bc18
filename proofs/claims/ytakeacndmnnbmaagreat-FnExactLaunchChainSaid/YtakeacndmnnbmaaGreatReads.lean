/- Reads and writes of instructions. -/
import Derived.Test.YtakeacndmnnbmaaGreatPicks
import Derived.Test.YtakeacndmnnbmaaGreatBits
import Derived.Deep.RegionHeld3
namespace Go.Proofs.YtakeacndmnnbmaaGreat
open Go.RowKit
set_option linter.unusedVariables false
set_option linter.unusedSimpArgs false

theorem cd_kept {w w1 : World} {x : Cd} {t : TypeId} (hb : Below (w.heap.size + 1) (w.alloc (.cells #[.int .i64 x.op, .int .i64 x.a, .int .i64 x.b, .int .i64 x.c] t)) w1) :
    w1.cell? ⟨w.heap.size, 0, none⟩ = some (.int .i64 x.op) ∧ w1.cell? ⟨w.heap.size, 1, none⟩ = some (.int .i64 x.a) ∧
    w1.cell? ⟨w.heap.size, 2, none⟩ = some (.int .i64 x.b) ∧ w1.cell? ⟨w.heap.size, 3, none⟩ = some (.int .i64 x.c) := by
  obtain ⟨h0, h1, h2, h3⟩ := cd_cells w x t
  have hb' : Below (w.alloc (.cells #[.int .i64 x.op, .int .i64 x.a, .int .i64 x.b, .int .i64 x.c] t)).heap.size (w.alloc (.cells #[.int .i64 x.op, .int .i64 x.a, .int .i64 x.b, .int .i64 x.c] t)) w1 := by simpa using hb
  exact ⟨cell_kept hb' h0, cell_kept hb' h1, cell_kept hb' h2, cell_kept hb' h3⟩

section
variable {o : Int} {a b c : Nat}
theorem shl4 {b : Nat} (h : b ≤ 3) : wrap64 (2 ^ b) = ((2 ^ b : Nat) : Int) := wrap64_pow b (by omega)
theorem shl4' {b : Nat} (h : b ≤ 3) : wrap64 (2 ^ min b 64) = ((2 ^ b : Nat) : Int) := by
  rw [Nat.min_eq_left (by omega)]; exact shl4 h
theorem sm4 {b : Nat} (h : b ≤ 3) : 2 ^ b < 4611686018427387904 := pow_small b (by omega)
theorem cv3 (hv : cvOk ⟨o, a, b, c⟩ = true) : a ≤ 3 ∧ c ≤ 3 := by
  have := cvOk_a hv; have := cvOk_c hv; simp only at *; omega
theorem cv3b (hv : cvOk ⟨o, a, b, c⟩ = true) (h : o = 3 ∨ o = 4 ∨ o = 5 ∨ o = 6 ∨ o = 7 ∨ o = 8 ∨ o = 9) : b ≤ 3 := by
  have := cvOk_b2 hv h; simp only at *; omega
theorem rdA (hv : cvOk ⟨o, a, b, c⟩ = true) (h : (o == 5) = true ∨ (o == 8) = true) : wrap64 (2 ^ min b 64) = ((reads ⟨o, a, b, c⟩ : Nat) : Int) := by
  have h' : o = 5 ∨ o = 8 := h.imp beq_iff_eq.1 beq_iff_eq.1
  rw [shl4' (cv3b hv (by omega))]
  rcases h' with rfl | rfl <;> simp [reads, hv]
theorem rdC (hv : cvOk ⟨o, a, b, c⟩ = true) (h : (o == 3) = true ∨ (o == 4) = true ∨ (o == 9) = true) : bits .or .i64 (wrap64 (2 ^ a)) (wrap64 (2 ^ min b 64)) = ((reads ⟨o, a, b, c⟩ : Nat) : Int) := by
  have h' : o = 3 ∨ o = 4 ∨ o = 9 := h.imp beq_iff_eq.1 (fun h => h.imp beq_iff_eq.1 beq_iff_eq.1)
  have hb := cv3b hv (by omega)
  have ha := (cv3 hv).1
  rw [shl4' hb, shl4 ha, bits_or64 _ _ (sm4 ha) (sm4 hb)]
  rcases h' with rfl | rfl | rfl <;> simp [reads, hv]
theorem rdD (hv : cvOk ⟨o, a, b, c⟩ = true) (h : (o == 6) = true) : bits .or .i64 (wrap64 (2 ^ min b 64)) (wrap64 (2 ^ c)) = ((reads ⟨o, a, b, c⟩ : Nat) : Int) := by
  obtain rfl : o = 6 := beq_iff_eq.1 h
  have hb := cv3b hv (by omega)
  have hc := (cv3 hv).2
  rw [shl4' hb, shl4 hc, bits_or64 _ _ (sm4 hb) (sm4 hc)]
  simp [reads, hv]
theorem rdE (hv : cvOk ⟨o, a, b, c⟩ = true) (h : (o == 7) = true) : bits .or .i64 (bits .or .i64 (wrap64 (2 ^ a)) (wrap64 (2 ^ min b 64))) (wrap64 (2 ^ c)) = ((reads ⟨o, a, b, c⟩ : Nat) : Int) := by
  obtain rfl : o = 7 := beq_iff_eq.1 h
  have hb := cv3b hv (by omega)
  obtain ⟨ha, hc⟩ := cv3 hv
  rw [shl4' hb, shl4 ha, shl4 hc, bits_or64 _ _ (sm4 ha) (sm4 hb), bits_or64 _ _ (Nat.or_lt_two_pow (n := 62) (sm4 ha) (sm4 hb)) (sm4 hc)]
  simp [reads, hv]
theorem rdF (hv : cvOk ⟨o, a, b, c⟩ = true) (h : (o == 11) = true ∨ (o == 13) = true) : wrap64 (2 ^ a) = ((reads ⟨o, a, b, c⟩ : Nat) : Int) := by
  have h' : o = 11 ∨ o = 13 := h.imp beq_iff_eq.1 beq_iff_eq.1
  rw [shl4 (cv3 hv).1]
  rcases h' with rfl | rfl <;> simp [reads, hv]
end

set_option maxRecDepth 100000 in
set_option maxHeartbeats 2000000 in
theorem sCodeReads_c (x : Cd) (w : World) :
    Calls Tryz.prog 110 #[x.val] w fun e w' => e = .returned (.int .i64 (reads x)) ∧ Below w.heap.size w w' := by
  cases hv : cvOk x with
  | false =>
    have HR := Lib.hid (show reads x = 0 by simp [reads, hv])
    unfold Cd.val
    go_enter Tryz.func110, Tryz.ntmps110
    go_wp2_with fail
    refine (sCodeValid_c x _).mono ?_
    rintro e w1 ⟨rfl, hb1⟩
    go_wp2
    go_ret
    exact ⟨reti (by rw [HR.out]; rfl), below_trans (Below.alloc (Below.refl _ _) (Nat.le_refl _) _) (by simp) hb1⟩
  | true =>
    have ha := cvOk_a hv
    have hb := cvOk_b hv
    have hc := cvOk_c hv
    have hb3 := cvOk_b2 hv
    have HB3 := Lib.hid hb3
    clear hb3
    obtain ⟨a, hae⟩ := Int.eq_ofNat_of_zero_le ha.1
    obtain ⟨b, hbe⟩ := Int.eq_ofNat_of_zero_le hb.1
    obtain ⟨c, hce⟩ := Int.eq_ofNat_of_zero_le hc.1
    obtain ⟨o, xa, xb, xc⟩ := x
    simp only at ha hb hc HB3 hae hbe hce
    subst hae hbe hce
    unfold Cd.val
    go_enter Tryz.func110, Tryz.ntmps110
    go_wp2_with fail
    refine (sCodeValid_c ⟨o, a, b, c⟩ _).mono ?_
    rintro e w1 ⟨rfl, hb1⟩
    obtain ⟨c0, c1, c2, c3⟩ := cd_kept (x := ⟨o, a, b, c⟩) (by simpa using hb1)
    simp only at c0 c1 c2 c3
    have hbw := below_trans (Below.alloc (Below.refl w.heap.size w) (Nat.le_refl _) (.cells #[.int .i64 o, .int .i64 a, .int .i64 b, .int .i64 c] 57)) (by simp) hb1
    go_wp2
    all_goals first | (go_ret; refine ⟨reti ?_, hbw⟩) | (go_quiet (fail); go_wp2; go_ret; refine ⟨reti ?_, hbw.trans ⟨rfl, rfl, rfl, Nat.le_refl _, fun _ _ => rfl⟩⟩)
    all_goals with_reducible first | exact rdA hv (.inl (by assumption)) | exact rdA hv (.inr (by assumption)) | exact rdC hv (.inl (by assumption)) | exact rdC hv (.inr (.inl (by assumption))) | exact rdC hv (.inr (.inr (by assumption))) | exact rdD hv (by assumption) | exact rdE hv (by assumption) | exact rdF hv (.inl (by assumption)) | exact rdF hv (.inr (by assumption)) | (simp [reads, *]; done)

set_option maxRecDepth 100000 in
set_option maxHeartbeats 400000 in
theorem sCodeWrites_c (x : Cd) (w : World) :
    Calls Tryz.prog 111 #[x.val] w fun e w' => e = .returned (.int .i64 (wreg x)) ∧ Below w.heap.size w w' := by
  cases hv : cvOk x with
  | false =>
    have HR := Lib.hid (show wreg x = -1 by simp [wreg, hv])
    unfold Cd.val
    go_enter Tryz.func111, Tryz.ntmps111
    go_wp2_with fail
    refine (sCodeValid_c x _).mono ?_
    rintro e w1 ⟨rfl, hb1⟩
    go_wp2
    go_ret
    exact ⟨reti (by rw [HR.out]), below_trans (Below.alloc (Below.refl _ _) (Nat.le_refl _) _) (by simp) hb1⟩
  | true =>
    unfold Cd.val
    go_enter Tryz.func111, Tryz.ntmps111
    go_wp2_with fail
    refine (sCodeValid_c x _).mono ?_
    rintro e w1 ⟨rfl, hb1⟩
    obtain ⟨c0, c1, c2, c3⟩ := cd_kept (x := x) (by simpa using hb1)
    have hbw := below_trans (Below.alloc (Below.refl w.heap.size w) (Nat.le_refl _) (.cells #[.int .i64 x.op, .int .i64 x.a, .int .i64 x.b, .int .i64 x.c] 57)) (by simp) hb1
    go_wp2_with fail
    cases hr : inR x.op 1 8 with
    | false =>
      have HR := Lib.hid (show wreg x = -1 by simp [wreg, hv, hr])
      go_wp2_with (go_at_call 54; refine (l1In_c _ _ _ _).mono ?_; rintro e w' ⟨rfl, rfl⟩)
      go_ret
      exact ⟨reti (by rw [HR.out]), hbw⟩
    | true =>
      have HR := Lib.hid (show wreg x = x.a by simp [wreg, hv, hr])
      go_wp2_with (go_at_call 54; refine (l1In_c _ _ _ _).mono ?_; rintro e w' ⟨rfl, rfl⟩)
      go_ret
      exact ⟨reti (by rw [HR.out]), hbw⟩

theorem op14 {x : Cd} (h : cvOk x = true) : x.op = 1 ∨ x.op = 2 ∨ x.op = 3 ∨ x.op = 4 ∨ x.op = 5 ∨ x.op = 6 ∨ x.op = 7 ∨ x.op = 8 ∨ x.op = 9 ∨ x.op = 10 ∨ x.op = 11 ∨ x.op = 12 ∨ x.op = 13 ∨ x.op = 14 := by
  have := cvOk_op h; omega

set_option maxRecDepth 100000 in
set_option maxHeartbeats 4000000 in
theorem iCodeReads_c (x : Cd) (w : World) :
    Calls Tryz.prog 96 #[x.val] w fun e w' => e = .returned (.int .i64 (reads x)) ∧ Below w.heap.size w w' := by
  cases hv : cvOk x with
  | false =>
    have HR := Lib.hid (show reads x = 0 by simp [reads, hv])
    unfold Cd.val
    go_enter Tryz.func96, Tryz.ntmps96
    go_wp2_with fail
    refine (iCodeValid_c x _).mono ?_
    rintro e w1 ⟨rfl, hb1⟩
    go_wp2
    go_ret
    exact ⟨reti (by rw [HR.out]; rfl), below_trans (Below.alloc (Below.refl _ _) (Nat.le_refl _) _) (by simp) hb1⟩
  | true =>
    have ha := cvOk_a hv
    have hb := cvOk_b hv
    have hc := cvOk_c hv
    have ho := op14 hv
    obtain ⟨a, hae⟩ := Int.eq_ofNat_of_zero_le ha.1
    obtain ⟨b, hbe⟩ := Int.eq_ofNat_of_zero_le hb.1
    obtain ⟨c, hce⟩ := Int.eq_ofNat_of_zero_le hc.1
    obtain ⟨o, xa, xb, xc⟩ := x
    simp only at ha hb hc hae hbe hce ho
    subst hae hbe hce
    unfold Cd.val
    have HV := Lib.hid hv
    clear hv
    rcases ho with rfl | rfl | rfl | rfl | rfl | rfl | rfl | rfl | rfl | rfl | rfl | rfl | rfl | rfl
    all_goals
      go_enter Tryz.func96, Tryz.ntmps96
      go_wp2_with fail
      refine (iCodeValid_c ⟨_, a, b, c⟩ _).mono ?_
      rintro e w1 ⟨rfl, hb1⟩
      rw [HV.out]
      obtain ⟨c0, c1, c2, c3⟩ := cd_kept (x := ⟨_, a, b, c⟩) (by simpa using hb1)
      simp only at c0 c1 c2 c3
      have hbw := below_trans (Below.alloc (Below.refl w.heap.size w) (Nat.le_refl _) (.cells #[.int .i64 _, .int .i64 a, .int .i64 b, .int .i64 c] 57)) (by simp) hb1
      go_wp2_with (go_at_call 73; refine (registers_c _ _).mono ?_; rintro e w' ⟨rfl, rfl⟩)
      go_ret
      refine ⟨reti ?_, hbw⟩
      first | ((with_reducible refine rdA HV.out ?_); decide) | ((with_reducible refine rdC HV.out ?_); decide) | ((with_reducible refine rdD HV.out ?_); decide) | ((with_reducible refine rdE HV.out ?_); decide) | ((with_reducible refine rdF HV.out ?_); decide) | (simp [reads]; done)

set_option maxHeartbeats 1000000 in
theorem iCodeWrites_c (x : Cd) (w : World) :
    Calls Tryz.prog 120 #[x.val] w fun e w' => e = .returned (.int .i64 (wreg x)) ∧ Below w.heap.size w w' := by
  cases hv : cvOk x with
  | false =>
    have HR := Lib.hid (show wreg x = -1 by simp [wreg, hv])
    unfold Cd.val
    go_enter Tryz.func120, Tryz.ntmps120
    go_wp2_with fail
    refine (iCodeValid_c x _).mono ?_
    rintro e w1 ⟨rfl, hb1⟩
    go_wp2
    go_ret
    exact ⟨reti (by rw [HR.out]), below_trans (Below.alloc (Below.refl _ _) (Nat.le_refl _) _) (by simp) hb1⟩
  | true =>
    have HV := Lib.hid hv
    unfold Cd.val
    go_enter Tryz.func120, Tryz.ntmps120
    go_wp2_with fail
    refine (iCodeValid_c x _).mono ?_
    rintro e w1 ⟨rfl, hb1⟩
    obtain ⟨c0, c1, c2, c3⟩ := cd_kept (x := x) (by simpa using hb1)
    have hbw := below_trans (Below.alloc (Below.refl w.heap.size w) (Nat.le_refl _) (.cells #[.int .i64 x.op, .int .i64 x.a, .int .i64 x.b, .int .i64 x.c] 57)) (by simp) hb1
    go_wp2
    all_goals go_ret
    all_goals refine ⟨reti ?_, hbw⟩
    all_goals clear hb1 hbw c0 c1 c2 c3 hv
    all_goals (have h14 := op14 HV.out; simp only [wreg, HV.out, Bool.true_and, inR]; simp_all; try omega)

theorem written_c (x : Cd) (w : World) :
    Calls Tryz.prog 97 #[x.val] w fun e w' => e = .returned (.int .i64 (wset x)) ∧ Below w.heap.size w w' := by
  by_cases hw : (cvOk x && inR x.op 1 8) = true
  · have e1 : wreg x = x.a := by simp only [wreg, hw, if_true]
    have e2 : wset x = 2 ^ x.a.toNat := by simp only [wset, hw, if_true]
    have ha := cvOk_a (by simp at hw; exact hw.1)
    obtain ⟨a, hae⟩ := Int.eq_ofNat_of_zero_le ha.1
    rw [hae] at e1 e2
    have h0 : ¬ ((a : Int) < 0) := by omega
    have h3 : a ≤ 3 := by omega
    have E2 := Lib.hid e2
    clear e2 hae ha hw
    unfold Cd.val
    go_enter Tryz.func97, Tryz.ntmps97
    go_wp2_with fail
    refine (iCodeWrites_c x _).mono ?_
    rintro e w1 ⟨rfl, hb1⟩
    rw [e1]
    clear e1
    go_wp2
    go_ret
    exact ⟨reti (by rw [E2.out, Int.toNat_natCast]; exact shl4 h3), below_trans (Below.alloc (Below.refl _ _) (Nat.le_refl _) _) (by simp) hb1⟩
  · have e1 : wreg x = -1 := by simp only [wreg, hw]; rfl
    have e2 : wset x = 0 := by simp only [wset, hw]; rfl
    have E2 := Lib.hid e2
    clear e2 hw
    unfold Cd.val
    go_enter Tryz.func97, Tryz.ntmps97
    go_wp2_with fail
    refine (iCodeWrites_c x _).mono ?_
    rintro e w1 ⟨rfl, hb1⟩
    rw [e1]
    clear e1
    go_wp2
    go_ret
    exact ⟨reti (by rw [E2.out]; rfl), below_trans (Below.alloc (Below.refl _ _) (Nat.le_refl _) _) (by simp) hb1⟩

/-- The union of what k instructions read and write. -/
theorem usedOf_take {l : List Cd} {k : Nat} {x : Cd} (h : l[k]? = some x) : usedOf (l.take (k + 1)) = usedOf (l.take k) ||| (reads x ||| wset x) := by
  obtain ⟨hk, rfl⟩ := List.getElem?_eq_some_iff.1 h
  unfold usedOf
  rw [List.take_succ_eq_append_getElem hk, List.foldl_append]
  rfl
theorem wset_wreg (x : Cd) : (0 ≤ wreg x ∧ wset x = 2 ^ (wreg x).toNat ∧ wreg x ≤ 3) ∨ (wreg x = -1 ∧ wset x = 0) := by
  unfold wreg wset
  split
  · rename_i h
    have := cvOk_a (by simp at h; exact h.1)
    exact .inl ⟨this.1, rfl, this.2⟩
  · exact .inr ⟨rfl, rfl⟩
theorem or16 {a b : Nat} (ha : a < 16) (hb : b < 16) : bits .or .i64 (a : Int) (b : Int) = ((a ||| b : Nat) : Int) := bits_or64 a b (by omega) (by omega)

set_option maxHeartbeats 2000000 in
theorem iregsUsed_c (A : Option Addr) (c : Nat) (l : List Cd) (w : World) (hA : RdC w w.heap.size A l) (hl : l.length ≤ 1000000000) :
    Calls Tryz.prog 67 #[.slice A l.length c] w fun e w' => e = .returned (.int .i64 (usedOf l)) ∧ Below w.heap.size w w' := by
  go_enter Tryz.func67, Tryz.ntmps67
  go_wp2
  go_loopw [3, 8] (fun sv iv wr => ∃ k : Nat, k ≤ l.length ∧ iv = .int .i64 k ∧ sv = .int .i64 (usedOf (l.take k)) ∧ Below w.heap.size w wr) (fun _ i _ => l.length - (intOf i).toNat)
  case atStart => exact ⟨0, Nat.zero_le _, rfl, rfl, Below.refl _ _⟩
  case round =>
    obtain ⟨k, hk, rfl, rfl, hb⟩ := hrel
    by_cases hlt : k < l.length
    · obtain ⟨b, off, x, rfl, hbB, hx, c0, c1, c2, c3⟩ := (hA.below hb).at_ hlt
      have HU := Lib.hid (usedOf_take hx)
      have u1 := usedOf_lt (l.take k)
      have hr := reads_lt x
      have hw := wset_lt x
      generalize usedOf (l.take k) = u at *
      clear hx
      have hsz := hb.size
      go_wp2_with fail
      obtain ⟨d0, d1, d2, d3⟩ := cd_cells wr x 57
      have hbw := hb.alloc hsz (.cells #[.int .i64 x.op, .int .i64 x.a, .int .i64 x.b, .int .i64 x.c] 57)
      have hz : wr.heap.size < (wr.alloc (.cells #[.int .i64 x.op, .int .i64 x.a, .int .i64 x.b, .int .i64 x.c] 57)).heap.size := by simp
      generalize hW : wr.alloc (.cells #[.int .i64 x.op, .int .i64 x.a, .int .i64 x.b, .int .i64 x.c] 57) = W1 at *
      clear hW c0 c1 c2 c3
      go_region_held3 (fun w' => w'.cell? ⟨wr.heap.size, 0, none⟩ = some (.int .i64 x.op) ∧ w'.cell? ⟨wr.heap.size, 1, none⟩ = some (.int .i64 x.a) ∧ w'.cell? ⟨wr.heap.size, 2, none⟩ = some (.int .i64 x.b) ∧ w'.cell? ⟨wr.heap.size, 3, none⟩ = some (.int .i64 x.c) ∧ Below w.heap.size w w' ∧ wr.heap.size < w'.heap.size)
        (first
          | (go_split_ands
             refine ⟨?_, ?_, ?_, ?_, ?_, ?_⟩
             · exact cell_kept hb2 (by assumption)
             · exact cell_kept hb2 (by assumption)
             · exact cell_kept hb2 (by assumption)
             · exact cell_kept hb2 (by assumption)
             · exact below_trans (by assumption) (Nat.le_refl _) hb2
             · exact Nat.lt_of_lt_of_le (by assumption) hb2.size)
          | (refine ⟨?_, ?_, ?_, ?_, ?_, ?_⟩
             · exact d0
             · exact d1
             · exact d2
             · exact d3
             · exact Below.drew hbw
             · exact hz))
        (first
          | (go_at_call 96; refine (iCodeReads_c x _).mono ?_; rintro e w2 ⟨rfl, hb2⟩)
          | (go_at_call 97; refine (written_c x _).mono ?_; rintro e w2 ⟨rfl, hb2⟩))
      rename_i hh
      obtain ⟨-, -, -, -, hb3, -⟩ := hh
      go_wp2
      go_roundw
      case rel =>
        refine ⟨k + 1, by omega, by go_num, ?_, hb3⟩
        rw [HU.out, or16 hr hw, or16 u1 (Nat.or_lt_two_pow (n := 4) hr hw)]
      case measure => simp [intOf]; omega
    · obtain rfl : k = l.length := by omega
      go_wp2
      go_ret
      exact ⟨reti (by rw [List.take_length]), hb⟩

def regsUsedI (l : List Cd) : Int := if pv l then (usedOf l : Int) else -1

def SRRel (w : World) (l : List Cd) (sv iv : Value) (wr : World) : Prop :=
  ∃ k : Nat, k ≤ l.length ∧ iv = .int .i64 k ∧ sv = .int .i64 (usedOf (l.take k)) ∧ Below w.heap.size w wr

set_option maxHeartbeats 2000000 in
theorem sRegsUsed_c (A : Option Addr) (c : Nat) (l : List Cd) (w : World) (hA : RdC w w.heap.size A l) (hl : l.length ≤ 1000000000) :
    Calls Tryz.prog 86 #[.slice A l.length c] w fun e w' => e = .returned (.int .i64 (regsUsedI l)) ∧ Below w.heap.size w w' := by
  cases hp : pv l with
  | false =>
    go_enter Tryz.func86, Tryz.ntmps86
    go_wp2_with fail
    refine (sProgramValid_c A c l w hA hl).mono ?_
    rintro e w1 ⟨rfl, hb⟩
    go_wp2
    go_ret
    exact ⟨reti (by simp [regsUsedI, hp]), hb⟩
  | true =>
    have HP := Lib.hid hp
    go_enter Tryz.func86, Tryz.ntmps86
    go_wp2_with fail
    refine (sProgramValid_c A c l w hA hl).mono ?_
    rintro e w1 ⟨rfl, hb1⟩
    go_wp2
    clear hp
    go_loopw [3, 4, 5] (fun sv iv _ wr => SRRel w l sv iv wr) (fun _ i _ _ => l.length - (intOf i).toNat)
    case atStart => exact ⟨0, Nat.zero_le _, rfl, rfl, hb1⟩
    case round =>
      obtain ⟨k, hk, rfl, rfl, hb⟩ := hrel
      by_cases hlt : k < l.length
      · obtain ⟨b, off, x, rfl, hbB, hx, c0, c1, c2, c3⟩ := (hA.below hb).at_ hlt
        have HU := Lib.hid (usedOf_take hx)
        have HX := Lib.hid hx
        have u1 := usedOf_lt (l.take k)
        have hr := reads_lt x
        have hwl := wset_lt x
        have hw3 := wset_wreg x
        generalize usedOf (l.take k) = u at *
        have hsz := hb.size
        have hbl : b < wr.heap.size := by omega
        have q0 : (0 : Int) ≤ (k : Int) := Int.natCast_nonneg _
        have q5 : (k : Int) < (l.length : Int) := by omega
        clear hx
        have HW := Lib.hid hw3
        clear hw3
        go_wp2_with fail
        refine (sCodeReads_c x _).mono ?_
        rintro e w2 ⟨rfl, hb2⟩
        replace c0 := cell_kept hb2 c0
        replace c1 := cell_kept hb2 c1
        replace c2 := cell_kept hb2 c2
        replace c3 := cell_kept hb2 c3
        have hb3 := below_trans hb (Nat.le_refl _) hb2
        go_wp2_with fail
        refine (sCodeWrites_c x _).mono ?_
        rintro e w3 ⟨rfl, hb4⟩
        have hb5 := below_trans hb3 (Nat.le_refl _) hb4
        clear c0 c1 c2 c3
        rcases HW.out with ⟨g0, g1, g2⟩ | ⟨g0, g1⟩
        · obtain ⟨r, hr0⟩ := Int.eq_ofNat_of_zero_le g0
          rw [hr0] at g1 g2 ⊢
          have HG := Lib.hid g1
          clear g0 g1 hr0
          have g3 : r ≤ 3 := by omega
          go_wp2
          go_roundw
          case rel =>
            refine ⟨k + 1, by omega, by go_num, ?_, hb5⟩
            have hg := HG.out
            rw [Int.toNat_natCast] at hg
            rw [HU.out, hg, or16 u1 hr, or_bit _ _ (by have := Nat.or_lt_two_pow (n := 4) u1 hr; omega) (by omega), Nat.or_assoc]
          case measure => simp [intOf]; omega
        · rw [g0]
          have HG := Lib.hid g1
          clear g0 g1
          go_wp2
          go_roundw
          case rel =>
            refine ⟨k + 1, by omega, by go_num, ?_, hb5⟩
            rw [HU.out, HG.out, or16 u1 hr, Nat.or_zero]
          case measure => simp [intOf]; omega
      · obtain rfl : k = l.length := by omega
        go_wp2
        go_ret
        exact ⟨reti (by simp [regsUsedI, HP.out]), hb⟩

end Go.Proofs.YtakeacndmnnbmaaGreat
