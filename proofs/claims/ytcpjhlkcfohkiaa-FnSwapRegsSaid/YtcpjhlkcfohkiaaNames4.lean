/- SwapRegs of both packages. -/
import Derived.Test.YtcpjhlkcfohkiaaNames3
namespace Go.Proofs.Ytcpjhlkcfohkiaa
open Go.RowKit
set_option linter.unusedVariables false
set_option linter.unusedSimpArgs false

theorem OI4 (w : World) (B : Nat) (a b c d : Int) (hB : B ≤ w.heap.size) : OI (w.alloc (.cells #[.int .i64 a, .int .i64 b, .int .i64 c, .int .i64 d] 3)) B (some ⟨w.heap.size, 0, none⟩) 4 4 [a, b, c, d] :=
  (OR.lit w w.heap.size _ 1 4 #[.int .i64 a, .int .i64 b, .int .i64 c, .int .i64 d] (Nat.le_refl _) (by omega) rfl).mono hB

theorem OC.empty2 (w : World) (o : Obj) : OC ((w.alloc o).alloc (.cells #[] 45)) w.heap.size (some ⟨w.heap.size + 1, 0, none⟩) 0 0 [] := by
  have := OC.empty_ (w.alloc o) w.heap.size (by simp)
  simpa using this
theorem call_renamed (p q r s : Int) (A : Option Addr) (c : Nat) (l : List Cd) (w : World) (hA : RdC w w.heap.size A l) (hl : l.length ≤ 1000000000) (hv : ∀ x ∈ l, cvOk x = true) :
    Calls Try.prog 85 #[.slice A l.length c, .agg #[.int .i64 p, .int .i64 q, .int .i64 r, .int .i64 s]] (w.alloc (.cells #[.int .i64 p, .int .i64 q, .int .i64 r, .int .i64 s] 83)) (RetC w (l.map (ren (nm [p, q, r, s])))) := by
  have hb : Below w.heap.size w (w.alloc (.cells #[.int .i64 p, .int .i64 q, .int .i64 r, .int .i64 s] 83)) := (Below.refl _ _).alloc (Nat.le_refl _) _
  refine (renamed_c A c l [p, q, r, s] _ ((hA.below hb).more hb.size) hl hv).mono ?_
  intro e w' h
  exact h.mono hb
theorem call_ren (p q r s : Int) (A : Option Addr) (c : Nat) (l : List Cd) (w : World) (hA : RdC w w.heap.size A l) (hl : l.length ≤ 1000000000) :
    Calls Try.prog 54 #[.slice A l.length c, .slice (some ⟨w.heap.size, 0, none⟩) 4 4] (w.alloc (.cells #[.int .i64 p, .int .i64 q, .int .i64 r, .int .i64 s] 3)) (RetC w (renameL l [p, q, r, s])) := by
  have hb : Below w.heap.size w (w.alloc (.cells #[.int .i64 p, .int .i64 q, .int .i64 r, .int .i64 s] 3)) := (Below.refl _ _).alloc (Nat.le_refl _) _
  have ho : OI (w.alloc (.cells #[.int .i64 p, .int .i64 q, .int .i64 r, .int .i64 s] 3)) w.heap.size (some ⟨w.heap.size, 0, none⟩) ([p, q, r, s] : List Int).length 4 [p, q, r, s] := OI4 w _ p q r s (Nat.le_refl _)
  refine (sRenameRegs_c A _ c 4 l [p, q, r, s] _ ((hA.below hb).more hb.size) hl (OI.rd ho) (by simp)).mono ?_
  intro e w' h
  exact h.mono hb

set_option maxRecDepth 100000 in
set_option maxHeartbeats 8000000 in
theorem sSwapRegs_c (A : Option Addr) (c : Nat) (l : List Cd) (a b : Int) (w : World) (hA : RdC w w.heap.size A l) (hl : l.length ≤ 1000000000) :
    Calls Try.prog 41 #[.slice A l.length c, .int .i64 a, .int .i64 b] w (RetC w (swapL l a b)) := by
  cases h : (inR a 0 3 && inR b 0 3) with
  | false =>
    have HR := Lib.hid (show swapL l a b = [] by simp [swapL, h])
    have h2 : inR a 0 3 = false ∨ (inR a 0 3 = true ∧ inR b 0 3 = false) := by
      cases ha : inR a 0 3 with
      | false => exact .inl rfl
      | true => rw [ha, Bool.true_and] at h; exact .inr ⟨rfl, h⟩
    clear h
    rcases h2 with h2 | ⟨h2, h3⟩
    all_goals
      go_enter Try.func41, Try.ntmps41
      go_wp2_with (go_at_call 76; refine (l1In_c _ _ _ _).mono ?_; rintro e w' ⟨rfl, rfl⟩)
      go_ret
      rw [HR.out]
      exact RetC.of (OC.empty2 _ _) (by repeat (first | exact Below.refl _ _ | assumption | refine Below.alloc ?_ (by simp <;> omega) _ | refine Below.setCell ?_ (by simp <;> omega) _ | refine Below.drew ?_))
  | true =>
    have HR := Lib.hid (swap_rename l a b h)
    simp only [Bool.and_eq_true, inR_iff] at h
    obtain ⟨ha, hb⟩ := h
    have h1 : a = 0 ∨ a = 1 ∨ a = 2 ∨ a = 3 := by omega
    have h2 : b = 0 ∨ b = 1 ∨ b = 2 ∨ b = 3 := by omega
    clear ha hb
    rcases h1 with rfl | rfl | rfl | rfl <;> rcases h2 with rfl | rfl | rfl | rfl
    all_goals
      go_enter Try.func41, Try.ntmps41
      go_wp2_with (go_at_call 76; refine (l1In_c _ _ _ _).mono ?_; rintro e w' ⟨rfl, rfl⟩)
      refine (call_ren _ _ _ _ A c l w hA hl).mono ?_
      rintro e w2 ⟨A2, c2, rfl, ho, hb⟩
      go_wp2
      go_ret
      rw [← HR.out]
      exact ⟨A2, c2, rfl, ho, hb⟩

set_option maxRecDepth 100000 in
set_option maxHeartbeats 8000000 in
theorem iSwapRegs_c (A : Option Addr) (c : Nat) (l : List Cd) (a b : Int) (w : World) (hA : RdC w w.heap.size A l) (hl : l.length ≤ 1000000000) :
    Calls Try.prog 39 #[.slice A l.length c, .int .i64 a, .int .i64 b] w (RetC w (swapL l a b)) := by
  cases hp : pv l with
  | false =>
    have HR := Lib.hid (show swapL l a b = [] by simp [swapL, hp])
    go_enter Try.func39, Try.ntmps39
    go_wp2_with fail
    refine (iProgramValid_c A c l w hA hl).mono ?_
    rintro e w1 ⟨rfl, hb⟩
    go_wp2
    go_ret
    rw [HR.out]
    exact RetC.of (OC.nil_ _ _) hb
  | true =>
    have HV := Lib.hid (pv_all hp)
    cases h : (inR a 0 3 && inR b 0 3) with
    | false =>
      have HR := Lib.hid (show swapL l a b = [] by simp [swapL, h])
      have h2 : inR a 0 3 = false ∨ (inR a 0 3 = true ∧ inR b 0 3 = false) := by
        cases ha : inR a 0 3 with
        | false => exact .inl rfl
        | true => rw [ha, Bool.true_and] at h; exact .inr ⟨rfl, h⟩
      clear h
      rcases h2 with h2 | ⟨h2, h3⟩
      all_goals
        go_enter Try.func39, Try.ntmps39
        go_wp2_with fail
        refine (iProgramValid_c A c l w hA hl).mono ?_
        rintro e w1 ⟨rfl, hb⟩
        go_wp2_with (go_at_call 84; refine (isReg_c _ _).mono ?_; rintro e w' ⟨rfl, rfl⟩)
        go_ret
        rw [HR.out]
        exact RetC.of (OC.nil_ _ _) hb
    | true =>
      have HR := Lib.hid (show l.map (ren (nm (swapTo a b))) = swapL l a b by simp [swapL, hp, h])
      simp only [Bool.and_eq_true, inR_iff] at h
      obtain ⟨ha, hb⟩ := h
      have h1 : a = 0 ∨ a = 1 ∨ a = 2 ∨ a = 3 := by omega
      have h2 : b = 0 ∨ b = 1 ∨ b = 2 ∨ b = 3 := by omega
      clear ha hb
      rcases h1 with rfl | rfl | rfl | rfl <;> rcases h2 with rfl | rfl | rfl | rfl
      all_goals
        go_enter Try.func39, Try.ntmps39
        go_wp2_with fail
        refine (iProgramValid_c A c l w hA hl).mono ?_
        rintro e w1 ⟨rfl, hb⟩
        have hA1 := (hA.below hb).more hb.size
        go_wp2_with (go_at_call 84; refine (isReg_c _ _).mono ?_; rintro e w' ⟨rfl, rfl⟩)
        refine (call_renamed _ _ _ _ A c l w1 hA1 hl HV.out).mono ?_
        intro e w2 h
        obtain ⟨A2, c2, rfl, ho, hb2⟩ := h.mono hb
        go_wp2
        go_ret
        rw [← HR.out]
        exact ⟨A2, c2, by simp only [List.length_map]; rfl, ho, hb2⟩
end Go.Proofs.Ytcpjhlkcfohkiaa
