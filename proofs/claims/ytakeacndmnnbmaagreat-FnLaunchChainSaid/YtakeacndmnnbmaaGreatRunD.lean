/- Runs that are drawn; what is asked of a run before. -/
import Derived.Test.YtakeacndmnnbmaaGreatDrawR
import Derived.Test.YtakeacndmnnbmaaGreatLock6
import Derived.Test.YtakeacndmnnbmaaGreatILock7
import Derived.Test.YtakeacndmnnbmaaGreatAccLaw
import Derived.Test.YtakeacndmnnbmaaGreatSame
namespace Go.Proofs.YtakeacndmnnbmaaGreat
open Go.RowKit
set_option linter.unusedVariables false
set_option linter.unusedSimpArgs false

def RunP (w : World) (e : Ending) (w' : World) : Prop :=
  ∃ (l : List Cd) (A : Option Addr) (c : Nat) (n : Int) (m : List Int) (Am : Option Addr) (cm : Nat), e = .returned (.tuple #[.slice A l.length c, .int .i64 n, .slice Am m.length cm]) ∧ l.length ≤ 200000 ∧ m.length ≤ 40 ∧ (0 ≤ n ∧ n ≤ 9) ∧
    RdC w' w'.heap.size A l ∧ RdI w' w'.heap.size Am m ∧ Below w.heap.size w w'
theorem RunP.of {w w1 w2 : World} {B g K n c m cm : Nat} {lanes : Int} {A Am : Option Addr} (hB : Below w.heap.size w w1) (hg : w.heap.size ≤ g) (hn : n ≤ 200000) (hm : m ≤ 40) (h0 : 0 ≤ lanes) (h9 : lanes ≤ 9) (D : DSx w1 B g K A n c w2) {l : List Int} (hl : l.length = m) (hrd : RdI w2 w2.heap.size Am l) :
    RunP w (.returned (.tuple #[.slice A n c, .int .i64 lanes, .slice Am m cm])) w2 := by
  obtain ⟨x, h1, h2, h3, h4⟩ := D
  obtain rfl := OC.len h1
  subst hl
  exact ⟨x, A, c, lanes, l, Am, cm, rfl, hn, hm, ⟨h0, h9⟩, OC.rd h1, hrd, hB.grown h3 hB.size (fun k e => by cases e; exact hg)⟩

def RunP2 (w : World) (e : Ending) (w' : World) : Prop :=
  ∃ (l : List Cd) (A : Option Addr) (c : Nat) (n : Int) (m : List Int) (Am : Option Addr) (cm : Nat), e = .returned (.tuple #[.slice A l.length c, .int .i64 n, .slice Am m.length cm]) ∧ l.length ≤ 200000 ∧ m.length ≤ 40 ∧ (0 ≤ n ∧ n ≤ 9) ∧ (A = none → c = 0) ∧ l.length ≤ c ∧
    RdC w' w'.heap.size A l ∧ RdI w' w'.heap.size Am m ∧ Below w.heap.size w w'
theorem OR.capR {w : World} {base e size n c : Nat} {A : Option Addr} {xs : List Value} (h : OR w base e size A n c xs) : n ≤ c := by
  rcases h.2 with ⟨hv, h0⟩ | ⟨g, cap, cur, hv, -, -, h4, -⟩
  · omega
  · injection hv with _ _ h3
    omega
theorem RunP2.of {w w1 w2 : World} {B g K n c m cm : Nat} {lanes : Int} {A Am : Option Addr} (hB : Below w.heap.size w w1) (hg : w.heap.size ≤ g) (hn : n ≤ 200000) (hm : m ≤ 40) (h0 : 0 ≤ lanes) (h9 : lanes ≤ 9) (D : DSx w1 B g K A n c w2) {l : List Int} (hl : l.length = m) (hrd : RdI w2 w2.heap.size Am l) :
    RunP2 w (.returned (.tuple #[.slice A n c, .int .i64 lanes, .slice Am m cm])) w2 := by
  obtain ⟨x, h1, h2, h3, h4⟩ := D
  obtain rfl := OC.len h1
  subst hl
  exact ⟨x, A, c, lanes, l, Am, cm, rfl, hn, hm, ⟨h0, h9⟩, fun e => OC.nilc h1 e, OR.capR h1, OC.rd h1, hrd, hB.grown h3 hB.size (fun k e => by cases e; exact hg)⟩

theorem accsOf_len (l : List Cd) (n : Int) (m : List Int) : (accsOf l n m).length ≤ 20480 := by
  unfold accsOf
  split
  · rename_i h
    have h1 := (run_bd (treeOf l) 0 (2 ^ n.toNat - 1) (LS.start n.toNat m) (Bd.start _ _)).1
    simp only [lockOk, Bool.and_eq_true] at h
    have h2 := trace_len h.1 n.toNat m
    have e : lockS l n.toNat m = (treeOf l).run 0 (2 ^ n.toNat - 1) (LS.start n.toNat m) := rfl
    rw [← e] at h1
    omega
  · simp

theorem drawLaunch2_c (A : Option Addr) (c : Nat) (bs : List Int) (w : World) (hA : Reads w w.heap.size 1 A bs.length (bs.map (.int .u8))) (hb : ∀ x ∈ bs, 0 ≤ x ∧ x ≤ 255) (hl : bs.length ≤ 9223372036854775807) (hcap : bs.length ≤ c) :
    Calls Tryz.prog 19 #[.slice A bs.length c] w (RunP2 w) := by
  go_enter Tryz.func19, Tryz.ntmps19
  go_wp2_with fail
  refine (l20Open_c A c bs w hA hb hl hcap).mono ?_
  rintro e w1 ⟨rfl, hR, hB, hs⟩
  go_wp2_with fail
  refine (l20Run_c hR (by omega) 14 (by omega)).mono ?_
  rintro e w2 ⟨A2, n2, c2, lanes, Am, m, cm, rfl, hn2, hm, h0, h9, D, l, hl2, hrd⟩
  go_wp2
  go_ret3
  exact RunP2.of hB (Nat.le_refl _) hn2 hm h0 h9 D hl2 hrd

end Go.Proofs.YtakeacndmnnbmaaGreat
