/- sameInts of equal lists; the drawing of a program; alive. -/
import Derived.Test.YtfgbbajkdpideaaCodes
import Derived.Test.YtfgbbajkdpideaaDraw5
import Derived.Test.YtfgbbajkdpideaaFnGroups
import Derived.Test.YtfgbbajkdpideaaMem2
namespace Go.Proofs.Ytfgbbajkdpideaa
open Go.RowKit
set_option linter.unusedVariables false
set_option linter.unusedSimpArgs false

set_option maxRecDepth 100000 in
set_option maxHeartbeats 800000 in
theorem sameInts_c (A A2 : Option Addr) (c c2 : Nat) (l : List Int) (w : World) (hA : RdI w w.heap.size A l) (hA2 : RdI w w.heap.size A2 l) (hl : l.length ≤ 1000000000000) :
    Calls Try.prog 14 #[.slice A l.length c, .slice A2 l.length c2] w fun e w' => e = .returned (.bool true) ∧ Below w.heap.size w w' := by
  go_enter Try.func14, Try.ntmps14
  go_wp2
  go_loopw [5] (fun i wr => ∃ k : Nat, k ≤ l.length ∧ i = .int .i64 k ∧ Below w.heap.size w wr) (fun i _ => l.length - (intOf i).toNat)
  case atStart => exact ⟨0, Nat.zero_le _, rfl, Below.refl _ _⟩
  case round =>
    obtain ⟨k, hk, rfl, hb⟩ := hrel
    by_cases hlt : k < l.length
    · obtain ⟨b, off, x, rfl, hbB, hx, c0⟩ := (hA.below hb).at_ hlt
      obtain ⟨b2, off2, y, rfl, hbB2, hy, d0⟩ := (hA2.below hb).at_ hlt
      rw [hx] at hy
      injection hy with hy
      subst hy
      have hn : (x != x) = false := by simp
      clear hx
      go_wp2_with fail
      go_quiet (fail)
      go_wp2
      go_roundw
      case rel => exact ⟨k + 1, by omega, by go_num, hb.trans ⟨rfl, rfl, rfl, Nat.le_refl _, fun _ _ => rfl⟩⟩
      case measure => simp [intOf]; omega
    · go_wp2
      go_ret
      exact ⟨rfl, hb⟩

/-- A drawn program is returned. -/
def DrawnP (w : World) (e : Ending) (w' : World) : Prop := ∃ (l : List Cd) (A : Option Addr) (c : Nat), e = .returned (.slice A l.length c) ∧ l.length ≤ 200000 ∧ OC w' w.heap.size A l.length c l ∧ Below w.heap.size w w'
theorem DrawnP.of {w w1 w' : World} {B g K n c : Nat} {A : Option Addr} (h : DSx w1 B g K A n c w') (hB : Below w.heap.size w w1) (hg : w.heap.size ≤ g) (hn : n ≤ 200000) : DrawnP w (.returned (.slice A n c)) w' := by
  obtain ⟨l, h1, h2, h3, h4⟩ := h
  obtain rfl := OC.len h1
  exact ⟨l, A, c, rfl, hn, OR.mono h1 hB.size, hB.grown h3 hB.size (fun k e => by cases e; exact hg)⟩

theorem drawBarriersFlat_c (A : Option Addr) (c : Nat) (bs : List Int) (w : World) (hA : Reads w w.heap.size 1 A bs.length (bs.map (.int .u8))) (hb : ∀ x ∈ bs, 0 ≤ x ∧ x ≤ 255) (hl : bs.length ≤ 9223372036854775807) (hcap : bs.length ≤ c) :
    Calls Try.prog 5 #[.slice A bs.length c] w (DrawnP w) := by
  go_enter Try.func5, Try.ntmps5
  go_wp2_with fail
  refine (l20Open_c A c bs w hA hb hl hcap).mono ?_
  rintro e w1 ⟨rfl, hR, hB, hs⟩
  go_wp2_with fail
  refine (l20Program_c hR (by omega) 9 (by omega)).mono ?_
  rintro e w2 ⟨A2, n2, c2, rfl, hn2, D2⟩
  go_wp2
  go_ret
  exact DrawnP.of D2 hB (Nat.le_refl _) hn2

end Go.Proofs.Ytfgbbajkdpideaa
