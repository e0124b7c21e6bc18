/- Reads and writes of instructions. -/
import Derived.Test.YtcpjhlkcfohkiaaPicks
import Derived.Test.YtcpjhlkcfohkiaaBits
namespace Go.Proofs.Ytcpjhlkcfohkiaa
open Go.RowKit
set_option linter.unusedVariables false
set_option linter.unusedSimpArgs false

theorem cd_kept {w w1 : World} {x : Cd} {t : TypeId} (hb : Below (w.heap.size + 1) (w.alloc (.cells #[.int .i64 x.op, .int .i64 x.a, .int .i64 x.b, .int .i64 x.c] t)) w1) :
    w1.cell? ⟨w.heap.size, 0, none⟩ = some (.int .i64 x.op) ∧ w1.cell? ⟨w.heap.size, 1, none⟩ = some (.int .i64 x.a) ∧
    w1.cell? ⟨w.heap.size, 2, none⟩ = some (.int .i64 x.b) ∧ w1.cell? ⟨w.heap.size, 3, none⟩ = some (.int .i64 x.c) := by
  obtain ⟨h0, h1, h2, h3⟩ := cd_cells w x t
  have hb' : Below (w.alloc (.cells #[.int .i64 x.op, .int .i64 x.a, .int .i64 x.b, .int .i64 x.c] t)).heap.size (w.alloc (.cells #[.int .i64 x.op, .int .i64 x.a, .int .i64 x.b, .int .i64 x.c] t)) w1 := by simpa using hb
  exact ⟨cell_kept hb' h0, cell_kept hb' h1, cell_kept hb' h2, cell_kept hb' h3⟩

section
variable {o : Int} {a b c : Nat}
theorem shl4 {b : Nat} (h : b ≤ 3) : wrap64 (2 ^ b) = ((2 ^ b : Nat) : Int) := wrap64_pow b (by omega)
theorem shl4' {b : Nat} (h : b ≤ 3) : wrap64 (2 ^ min b 64) = ((2 ^ b : Nat) : Int) := by
  rw [Nat.min_eq_left (by omega)]; exact shl4 h
theorem sm4 {b : Nat} (h : b ≤ 3) : 2 ^ b < 4611686018427387904 := pow_small b (by omega)
theorem cv3 (hv : cvOk ⟨o, a, b, c⟩ = true) : a ≤ 3 ∧ c ≤ 3 := by
  have := cvOk_a hv; have := cvOk_c hv; simp only at *; omega
theorem cv3b (hv : cvOk ⟨o, a, b, c⟩ = true) (h : o = 3 ∨ o = 4 ∨ o = 5 ∨ o = 6 ∨ o = 7 ∨ o = 8 ∨ o = 9) : b ≤ 3 := by
  have := cvOk_b2 hv h; simp only at *; omega
theorem rdA (hv : cvOk ⟨o, a, b, c⟩ = true) (h : (o == 5) = true ∨ (o == 8) = true) : wrap64 (2 ^ min b 64) = ((reads ⟨o, a, b, c⟩ : Nat) : Int) := by
  have h' : o = 5 ∨ o = 8 := h.imp beq_iff_eq.1 beq_iff_eq.1
  rw [shl4' (cv3b hv (by omega))]
  rcases h' with rfl | rfl <;> simp [reads, hv]
theorem rdC (hv : cvOk ⟨o, a, b, c⟩ = true) (h : (o == 3) = true ∨ (o == 4) = true ∨ (o == 9) = true) : bits .or .i64 (wrap64 (2 ^ a)) (wrap64 (2 ^ min b 64)) = ((reads ⟨o, a, b, c⟩ : Nat) : Int) := by
  have h' : o = 3 ∨ o = 4 ∨ o = 9 := h.imp beq_iff_eq.1 (fun h => h.imp beq_iff_eq.1 beq_iff_eq.1)
  have hb := cv3b hv (by omega)
  have ha := (cv3 hv).1
  rw [shl4' hb, shl4 ha, bits_or64 _ _ (sm4 ha) (sm4 hb)]
  rcases h' with rfl | rfl | rfl <;> simp [reads, hv]
theorem rdD (hv : cvOk ⟨o, a, b, c⟩ = true) (h : (o == 6) = true) : bits .or .i64 (wrap64 (2 ^ min b 64)) (wrap64 (2 ^ c)) = ((reads ⟨o, a, b, c⟩ : Nat) : Int) := by
  obtain rfl : o = 6 := beq_iff_eq.1 h
  have hb := cv3b hv (by omega)
  have hc := (cv3 hv).2
  rw [shl4' hb, shl4 hc, bits_or64 _ _ (sm4 hb) (sm4 hc)]
  simp [reads, hv]
theorem rdE (hv : cvOk ⟨o, a, b, c⟩ = true) (h : (o == 7) = true) : bits .or .i64 (bits .or .i64 (wrap64 (2 ^ a)) (wrap64 (2 ^ min b 64))) (wrap64 (2 ^ c)) = ((reads ⟨o, a, b, c⟩ : Nat) : Int) := by
  obtain rfl : o = 7 := beq_iff_eq.1 h
  have hb := cv3b hv (by omega)
  obtain ⟨ha, hc⟩ := cv3 hv
  rw [shl4' hb, shl4 ha, shl4 hc, bits_or64 _ _ (sm4 ha) (sm4 hb), bits_or64 _ _ (Nat.or_lt_two_pow (n := 62) (sm4 ha) (sm4 hb)) (sm4 hc)]
  simp [reads, hv]
theorem rdF (hv : cvOk ⟨o, a, b, c⟩ = true) (h : (o == 11) = true ∨ (o == 13) = true) : wrap64 (2 ^ a) = ((reads ⟨o, a, b, c⟩ : Nat) : Int) := by
  have h' : o = 11 ∨ o = 13 := h.imp beq_iff_eq.1 beq_iff_eq.1
  rw [shl4 (cv3 hv).1]
  rcases h' with rfl | rfl <;> simp [reads, hv]
end

set_option maxRecDepth 100000 in
set_option maxHeartbeats 2000000 in
theorem sCodeReads_c (x : Cd) (w : World) :
    Calls Try.prog 99 #[x.val] w fun e w' => e = .returned (.int .i64 (reads x)) ∧ Below w.heap.size w w' := by
  cases hv : cvOk x with
  | false =>
    have HR := Lib.hid (show reads x = 0 by simp [reads, hv])
    unfold Cd.val
    go_enter Try.func99, Try.ntmps99
    go_wp2_with fail
    refine (sCodeValid_c x _).mono ?_
    rintro e w1 ⟨rfl, hb1⟩
    go_wp2
    go_ret
    exact ⟨reti (by rw [HR.out]; rfl), below_trans (Below.alloc (Below.refl _ _) (Nat.le_refl _) _) (by simp) hb1⟩
  | true =>
    have ha := cvOk_a hv
    have hb := cvOk_b hv
    have hc := cvOk_c hv
    have hb3 := cvOk_b2 hv
    have HB3 := Lib.hid hb3
    clear hb3
    obtain ⟨a, hae⟩ := Int.eq_ofNat_of_zero_le ha.1
    obtain ⟨b, hbe⟩ := Int.eq_ofNat_of_zero_le hb.1
    obtain ⟨c, hce⟩ := Int.eq_ofNat_of_zero_le hc.1
    obtain ⟨o, xa, xb, xc⟩ := x
    simp only at ha hb hc HB3 hae hbe hce
    subst hae hbe hce
    unfold Cd.val
    go_enter Try.func99, Try.ntmps99
    go_wp2_with fail
    refine (sCodeValid_c ⟨o, a, b, c⟩ _).mono ?_
    rintro e w1 ⟨rfl, hb1⟩
    obtain ⟨c0, c1, c2, c3⟩ := cd_kept (x := ⟨o, a, b, c⟩) (by simpa using hb1)
    simp only at c0 c1 c2 c3
    have hbw := below_trans (Below.alloc (Below.refl w.heap.size w) (Nat.le_refl _) (.cells #[.int .i64 o, .int .i64 a, .int .i64 b, .int .i64 c] 45)) (by simp) hb1
    go_wp2
    all_goals first | (go_ret; refine ⟨reti ?_, hbw⟩) | (go_quiet (fail); go_wp2; go_ret; refine ⟨reti ?_, hbw.trans ⟨rfl, rfl, rfl, Nat.le_refl _, fun _ _ => rfl⟩⟩)
    all_goals with_reducible first | exact rdA hv (.inl (by assumption)) | exact rdA hv (.inr (by assumption)) | exact rdC hv (.inl (by assumption)) | exact rdC hv (.inr (.inl (by assumption))) | exact rdC hv (.inr (.inr (by assumption))) | exact rdD hv (by assumption) | exact rdE hv (by assumption) | exact rdF hv (.inl (by assumption)) | exact rdF hv (.inr (by assumption)) | (simp [reads, *]; done)

end Go.Proofs.Ytcpjhlkcfohkiaa
