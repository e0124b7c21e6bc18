/- Runs that are drawn; what is asked of a run before. -/
import Derived.Test.YtfgbbajkdpideaaDrawR
import Derived.Test.YtfgbbajkdpideaaLock6
import Derived.Test.YtfgbbajkdpideaaILock7
import Derived.Test.YtfgbbajkdpideaaAccLaw
import Derived.Test.YtfgbbajkdpideaaSame
namespace Go.Proofs.Ytfgbbajkdpideaa
open Go.RowKit
set_option linter.unusedVariables false
set_option linter.unusedSimpArgs false

def RunP (w : World) (e : Ending) (w' : World) : Prop :=
  ∃ (l : List Cd) (A : Option Addr) (c : Nat) (n : Int) (m : List Int) (Am : Option Addr) (cm : Nat), e = .returned (.tuple #[.slice A l.length c, .int .i64 n, .slice Am m.length cm]) ∧ l.length ≤ 200000 ∧ m.length ≤ 40 ∧ (0 ≤ n ∧ n ≤ 9) ∧
    RdC w' w'.heap.size A l ∧ RdI w' w'.heap.size Am m ∧ Below w.heap.size w w'
theorem RunP.of {w w1 w2 : World} {B g K n c m cm : Nat} {lanes : Int} {A Am : Option Addr} (hB : Below w.heap.size w w1) (hg : w.heap.size ≤ g) (hn : n ≤ 200000) (hm : m ≤ 40) (h0 : 0 ≤ lanes) (h9 : lanes ≤ 9) (D : DSx w1 B g K A n c w2) {l : List Int} (hl : l.length = m) (hrd : RdI w2 w2.heap.size Am l) :
    RunP w (.returned (.tuple #[.slice A n c, .int .i64 lanes, .slice Am m cm])) w2 := by
  obtain ⟨x, h1, h2, h3, h4⟩ := D
  obtain rfl := OC.len h1
  subst hl
  exact ⟨x, A, c, lanes, l, Am, cm, rfl, hn, hm, ⟨h0, h9⟩, OC.rd h1, hrd, hB.grown h3 hB.size (fun k e => by cases e; exact hg)⟩

theorem drawPlaceCounts_c (A : Option Addr) (c : Nat) (bs : List Int) (w : World) (hA : Reads w w.heap.size 1 A bs.length (bs.map (.int .u8))) (hb : ∀ x ∈ bs, 0 ≤ x ∧ x ≤ 255) (hl : bs.length ≤ 9223372036854775807) (hcap : bs.length ≤ c) :
    Calls Try.prog 12 #[.slice A bs.length c] w (RunP w) := by
  go_enter Try.func12, Try.ntmps12
  go_wp2_with fail
  refine (l20Open_c A c bs w hA hb hl hcap).mono ?_
  rintro e w1 ⟨rfl, hR, hB, hs⟩
  go_wp2_with fail
  refine (l20Run_c hR (by omega) 14 (by omega)).mono ?_
  rintro e w2 ⟨A2, n2, c2, lanes, Am, m, cm, rfl, hn2, hm, h0, h9, D, l, hl2, hrd⟩
  go_wp2
  go_ret3
  exact RunP.of hB (Nat.le_refl _) hn2 hm h0 h9 D hl2 hrd

theorem runs_c (A Am : Option Addr) (c cm : Nat) (l : List Cd) (n : Int) (m : List Int) (w : World) (hA : RdC w w.heap.size A l) (hM : RdI w w.heap.size Am m) (hl : l.length ≤ 1000000000) (hml : m.length ≤ 1000000000) :
    Calls Try.prog 16 #[.slice A l.length c, .int .i64 n, .slice Am m.length cm] w fun e w' => e = .returned (.bool (lockOk l n m)) ∧ Below w.heap.size w w' := by
  have HK := Lib.hid (show lockOk l n m = (pv l && (inR n 1 8 && memOk m)) from rfl)
  have HS := Lib.hid (fun W h => sMemoryValid_c Am cm m W h hml)
  generalize lockOk l n m = ok at *
  generalize memOk m = mo at *
  go_enter Try.func16, Try.ntmps16
  go_wp2_with fail
  refine (sProgramValid_c A c l w hA hl).mono ?_
  rintro e w1 ⟨rfl, b1⟩
  generalize pv l = p at *
  cases p with
  | false =>
    go_wp2
    go_ret
    exact ⟨by rw [HK.out]; rfl, b1⟩
  | true =>
    by_cases hr : 1 ≤ n ∧ n ≤ 8
    · have e1 : inR n 1 8 = true := inR_iff.2 hr
      rw [e1] at HK
      obtain ⟨h1, h8⟩ := hr
      clear e1
      go_wp2_with fail
      refine (HS.out w1 ((hM.below b1).more b1.size)).mono ?_
      rintro e w2 ⟨rfl, rfl⟩
      go_wp2
      go_ret
      exact ⟨by rw [HK.out]; simp, b1⟩
    · have e1 : inR n 1 8 = false := inR_not.2 (by omega)
      rw [e1] at HK
      by_cases h1 : 1 ≤ n
      · have h8 : ¬ n ≤ 8 := by omega
        clear hr e1
        go_wp2
        go_ret
        exact ⟨by rw [HK.out]; rfl, b1⟩
      · clear hr e1
        go_wp2
        go_ret
        exact ⟨by rw [HK.out]; rfl, b1⟩

theorem iLockTrace_c (A Am : Option Addr) (ca cm : Nat) (l : List Cd) (n : Int) (m : List Int) (w : World) (hA : RdC w w.heap.size A l) (hM : RdI w w.heap.size Am m) (hl : l.length ≤ 1000000000) (hml : m.length ≤ 1000000000) :
    Calls Try.prog 18 #[.slice A l.length ca, .int .i64 n, .slice Am m.length cm] w fun e w' => (∃ (T : Option Addr) (tc : Nat), e = .returned (.slice T (traceOf l n m).length tc)) ∧ Below w.heap.size w w' := by
  have HT1 := Lib.hid (fun h : lockOk l n m = true => show (traceOf l n m).length = (lockS l n.toNat m).beats.length by simp [traceOf, h])
  have HT2 := Lib.hid (fun h : lockOk l n m = false => show (traceOf l n m).length = 0 by simp [traceOf, h])
  generalize (traceOf l n m).length = k at *
  go_enter Try.func18, Try.ntmps18
  go_wp2_with fail
  refine (runLock_c A Am ca cm l n m w hA hM hl hml).mono ?_
  rintro e w1 (⟨hok, hr⟩ | ⟨hok, rfl, hb1⟩)
  · obtain ⟨z, T, tc, U, uc, rfl, hzB, hzl, hzn, hS, hb1⟩ := hr
    obtain ⟨c0, c1, c2, c3, c4, c5, c6⟩ := hS.cells
    have HK := Lib.hid (HT1.out hok)
    clear hok hS hzn hzB hzl HT1 HT2
    go_wp2
    go_ret
    exact ⟨⟨T, tc, by rw [HK.out]; rfl⟩, hb1⟩
  · have HK := Lib.hid (HT2.out hok)
    clear hok
    go_wp2
    go_ret
    exact ⟨⟨none, 0, by rw [HK.out]; rfl⟩, hb1⟩

def RunP2 (w : World) (e : Ending) (w' : World) : Prop :=
  ∃ (l : List Cd) (A : Option Addr) (c : Nat) (n : Int) (m : List Int) (Am : Option Addr) (cm : Nat), e = .returned (.tuple #[.slice A l.length c, .int .i64 n, .slice Am m.length cm]) ∧ l.length ≤ 200000 ∧ m.length ≤ 40 ∧ (0 ≤ n ∧ n ≤ 9) ∧ (A = none → c = 0) ∧ l.length ≤ c ∧
    RdC w' w'.heap.size A l ∧ RdI w' w'.heap.size Am m ∧ Below w.heap.size w w'
theorem OR.capR {w : World} {base e size n c : Nat} {A : Option Addr} {xs : List Value} (h : OR w base e size A n c xs) : n ≤ c := by
  rcases h.2 with ⟨hv, h0⟩ | ⟨g, cap, cur, hv, -, -, h4, -⟩
  · omega
  · injection hv with _ _ h3
    omega
theorem RunP2.of {w w1 w2 : World} {B g K n c m cm : Nat} {lanes : Int} {A Am : Option Addr} (hB : Below w.heap.size w w1) (hg : w.heap.size ≤ g) (hn : n ≤ 200000) (hm : m ≤ 40) (h0 : 0 ≤ lanes) (h9 : lanes ≤ 9) (D : DSx w1 B g K A n c w2) {l : List Int} (hl : l.length = m) (hrd : RdI w2 w2.heap.size Am l) :
    RunP2 w (.returned (.tuple #[.slice A n c, .int .i64 lanes, .slice Am m cm])) w2 := by
  obtain ⟨x, h1, h2, h3, h4⟩ := D
  obtain rfl := OC.len h1
  subst hl
  exact ⟨x, A, c, lanes, l, Am, cm, rfl, hn, hm, ⟨h0, h9⟩, fun e => OC.nilc h1 e, OR.capR h1, OC.rd h1, hrd, hB.grown h3 hB.size (fun k e => by cases e; exact hg)⟩

theorem accsOf_len (l : List Cd) (n : Int) (m : List Int) : (accsOf l n m).length ≤ 20480 := by
  unfold accsOf
  split
  · rename_i h
    have h1 := (run_bd (treeOf l) 0 (2 ^ n.toNat - 1) (LS.start n.toNat m) (Bd.start _ _)).1
    simp only [lockOk, Bool.and_eq_true] at h
    have h2 := trace_len h.1 n.toNat m
    have e : lockS l n.toNat m = (treeOf l).run 0 (2 ^ n.toNat - 1) (LS.start n.toNat m) := rfl
    rw [← e] at h1
    omega
  · simp

end Go.Proofs.Ytfgbbajkdpideaa
