/- Marks on rows that may be empty slices of any address; what they leave alone. -/
import Derived.Test.YtakeacndmnnbmaaGreatMem2
import Derived.Test.YtakeacndmnnbmaaGreatCodes
namespace Go.Proofs.YtakeacndmnnbmaaGreat
open Go.RowKit
set_option linter.unusedVariables false
set_option linter.unusedSimpArgs false

theorem reads_nil (w : World) (B size : Nat) (A : Option Addr) : Reads w B size A 0 [] := ⟨by simp, fun h => absurd h (by omega)⟩
theorem RdC.nil_ (w : World) (B : Nat) (A : Option Addr) : RdC w B A [] := reads_nil w B 4 A
theorem RdI.nil_ (w : World) (B : Nat) (A : Option Addr) : RdI w B A [] := reads_nil w B 1 A

/-- Some row of the blocks from base on may be written, and new blocks. -/
def Marked (w w' : World) (base n : Nat) (v : Value) : Prop := ∃ row, (∀ k, row = some k → 0 < n ∧ v.ownBlock = some k ∧ base ≤ k ∧ k < w.heap.size) ∧ w.grownBy w' row
theorem Marked.size {base n : Nat} {w w' : World} {v : Value} (h : Marked w w' base n v) : w.heap.size ≤ w'.heap.size := by
  obtain ⟨row, hr, hg⟩ := h
  exact hg.size

theorem Marked.below {B base n : Nat} {w0 w w' : World} {v : Value} (hb : Below B w0 w) (h : Marked w w' base n v) (hB : B ≤ w.heap.size) (hb2 : B ≤ base) : Below B w0 w' := by
  obtain ⟨row, hr, hg⟩ := h
  exact hb.grown hg hB (fun k e => Nat.le_trans hb2 (hr k e).2.2.1)
theorem Marked.ext_row {base m : Nat} {w w' : World} {v : Value} (h : Marked w w' base m v) {base2 e size n c : Nat} {A : Option Addr} {xs : List Value} (ho : OR w base2 e size A n c xs)
    (hd : 0 < m → ∀ k j, v.ownBlock = some k → Value.ownBlock (.slice A n c) = some j → k ≠ j) : OR w' base2 e size A n c xs := by
  obtain ⟨row, hr, hg⟩ := h
  cases hob : Value.ownBlock (.slice A n c) with
  | none => exact OR.kept ho hg (.inl hob)
  | some j =>
    refine OR.kept ho hg (.inr fun e => ?_)
    rw [hob] at e
    obtain ⟨h0, h1, h2, h3⟩ := hr j e.symm
    exact hd h0 j j h1 hob rfl
theorem Marked.extC {base m : Nat} {w w' : World} {v : Value} (h : Marked w w' base m v) {base2 n c : Nat} {A : Option Addr} {l : List Cd} (ho : OwC w base2 A n c l)
    (hd : 0 < m → 0 < n → ∀ k j, v.ownBlock = some k → Value.ownBlock (.slice A n c) = some j → k ≠ j) : OwC w' base2 A n c l := by
  by_cases hn : 0 < n
  · exact ho.imp id (fun ho => h.ext_row ho (fun h0 => hd h0 hn))
  · have := ho.len
    exact .inl ⟨by omega, List.eq_nil_of_length_eq_zero (by omega), ho.nilc⟩
theorem Marked.extI {base m : Nat} {w w' : World} {v : Value} (h : Marked w w' base m v) {base2 n c : Nat} {A : Option Addr} {l : List Int} (ho : OwI w base2 A n c l)
    (hd : 0 < m → 0 < n → ∀ k j, v.ownBlock = some k → Value.ownBlock (.slice A n c) = some j → k ≠ j) : OwI w' base2 A n c l := by
  by_cases hn : 0 < n
  · exact ho.imp id (fun ho => h.ext_row ho (fun h0 => hd h0 hn))
  · have := ho.len
    exact .inl ⟨by omega, List.eq_nil_of_length_eq_zero (by omega)⟩
theorem OwC.blk {w : World} {base n c : Nat} {A : Option Addr} {l : List Cd} (h : OwC w base A n c l) : 0 < n → ∀ j, Value.ownBlock (.slice A n c) = some j → base ≤ j ∧ j < w.heap.size := by
  intro hn j hj
  rcases h with ⟨h1, _⟩ | h
  · omega
  · exact OR.block h j hj
theorem OwI.blk {w : World} {base n c : Nat} {A : Option Addr} {l : List Int} (h : OwI w base A n c l) : 0 < n → ∀ j, Value.ownBlock (.slice A n c) = some j → base ≤ j ∧ j < w.heap.size := by
  intro hn j hj
  rcases h with ⟨h1, _⟩ | h
  · omega
  · exact OR.block h j hj
/-- Rows that lie one behind the other are different. -/
def Apart (n m : Nat) (u v : Value) : Prop := 0 < n → 0 < m → ∀ k j, u.ownBlock = some k → v.ownBlock = some j → k ≠ j
theorem Apart.mk {n m s t bu bv : Nat} {u v : Value} (hu : 0 < n → ∀ j, u.ownBlock = some j → bu ≤ j ∧ j < s) (hv : 0 < m → ∀ j, v.ownBlock = some j → bv ≤ j ∧ j < t) (h : s ≤ bv) : Apart n m u v := by
  intro h0 h1 k j hk hj
  have := hu h0 k hk
  have := hv h1 j hj
  omega
theorem Apart.symm {n m : Nat} {u v : Value} (h : Apart n m u v) : Apart m n v u := fun h0 h1 k j hk hj e => h h1 h0 j k hj hk e.symm

theorem markC_c (A : Option Addr) (n c base : Nat) (k0 : Int) (l : List Cd) (w : World) (h : OwC w base A n c l) (hn : n ≤ 1000000000000) (hk0 : 0 ≤ k0) (hk1 : k0 ≤ 1000000000000) :
    Calls Tryz.prog 16 #[.slice A n c, .int .i64 k0] w fun r w' => r = .returned (.int .i64 (k0 + 4 * n)) ∧ Reads w' w'.heap.size 4 A n (marks k0 (n * 4)) ∧ Marked w w' base n (.slice A n c) := by
  rcases Nat.eq_zero_or_pos n with rfl | hpos
  · go_enter Tryz.func16, Tryz.ntmps16
    go_wp2
    go_loopw [1, 5] (fun m i wr => i = .int .i64 0 ∧ m = .int .i64 k0 ∧ w = wr) (fun _ _ _ => 0)
    case atStart => exact ⟨rfl, rfl, rfl⟩
    case round =>
      obtain ⟨rfl, rfl, rfl⟩ := hrel
      go_wp2
      go_ret
      exact ⟨reti (by simp), reads_nil _ _ _ _, none, by simp, grown_refl _ _⟩
  · replace h := h.resolve_left (fun e => by omega)
    refine (markCodeS_c A n c base _ k0 _ w h hn hk0 hk1).mono ?_
    rintro e w' ⟨rfl, ho, hg⟩
    have hb := OR.block h
    refine ⟨rfl, Reads.of_own ho, _, fun k hk => ⟨hpos, hk, hb k hk⟩, hg⟩

theorem markI_c (A : Option Addr) (n c base : Nat) (k0 : Int) (l : List Int) (w : World) (h : OwI w base A n c l) (hn : n ≤ 1000000000000) (hk0 : 0 ≤ k0) (hk1 : k0 ≤ 1000000000000) :
    Calls Tryz.prog 17 #[.slice A n c, .int .i64 k0] w fun r w' => r = .returned (.int .i64 (k0 + n)) ∧ Reads w' w'.heap.size 1 A n (marks k0 n) ∧ Marked w w' base n (.slice A n c) := by
  rcases Nat.eq_zero_or_pos n with rfl | hpos
  · go_enter Tryz.func17, Tryz.ntmps17
    go_wp2
    go_loopw [1, 5] (fun m i wr => i = .int .i64 0 ∧ m = .int .i64 k0 ∧ w = wr) (fun _ _ _ => 0)
    case atStart => exact ⟨rfl, rfl, rfl⟩
    case round =>
      obtain ⟨rfl, rfl, rfl⟩ := hrel
      go_wp2
      go_ret
      exact ⟨reti (by simp), reads_nil _ _ _ _, none, by simp, grown_refl _ _⟩
  · replace h := h.resolve_left (fun e => by omega)
    refine (markIntS_c A n c base _ k0 _ w h hn hk0 hk1).mono ?_
    rintro e w' ⟨rfl, ho, hg⟩
    have hb := OR.block h
    refine ⟨rfl, Reads.of_own ho, _, fun k hk => ⟨hpos, hk, hb k hk⟩, hg⟩
end Go.Proofs.YtakeacndmnnbmaaGreat
