/- The program's PeelLoop, and PeelPlaces of both. -/
import Derived.Test.YtoiihjbdcjllbaaConcat
import Derived.Test.YtoiihjbdcjllbaaPeelS
namespace Go.Proofs.Ytoiihjbdcjllbaa
open Go.RowKit
set_option linter.unusedVariables false
set_option linter.unusedSimpArgs false

def PPRel (w : World) (l : List Cd) (ov iv : Value) (wr : World) : Prop :=
  ∃ (k : Nat) (A : Option Addr) (n c : Nat), k ≤ l.length ∧ iv = .int .i64 k ∧ ov = .slice A n c ∧ OI wr w.heap.size A n c (peelPl l k) ∧ n ≤ k ∧ Below w.heap.size w wr

set_option maxRecDepth 100000 in
set_option maxHeartbeats 4000000 in
theorem ipeelPlaces_c (A : Option Addr) (c : Nat) (l : List Cd) (w : World) (hA : RdC w w.heap.size A l) (hp : pv l = true) (hcap : l.length ≤ c) :
    Calls Try.prog 56 #[.slice A l.length c] w (RetI w (peelPl l l.length)) := by
  have h40 := (pv_iff.1 hp).1
  have HP := Lib.hid hp
  clear hp
  go_enter Try.func56, Try.ntmps56
  go_wp2
  go_loopw [3, 9] (fun ov iv wr => PPRel w l ov iv wr) (fun _ i _ => l.length - (intOf i).toNat)
  case atStart => exact ⟨0, _, 0, 0, Nat.zero_le _, rfl, rfl, OI.nil_ _ _, Nat.le_refl _, Below.refl _ _⟩
  case round =>
    obtain ⟨k, A1, n, c1, hk, rfl, rfl, ho, hn, hb⟩ := hrel
    by_cases hlt : k < l.length
    · go_wp2_with fail
      refine (ipeel_c A c l k wr ((hA.below hb).more hb.size) HP.out hcap).mono ?_
      rintro e w1 (⟨hok, A2, c2, rfl, _, hb1⟩ | ⟨hok, hb1, v, rfl⟩)
      · have ho1 := OR.below ho hb1 (Nat.le_refl _)
        have hb2 := below_trans hb (Nat.le_refl _) hb1
        have HE := Lib.hid (peelPl_yes (l := l) (k := k) (by simp [peelB, HP.out, hok]))
        clear hok
        go_wp2_with (at_builtin; refine app_int rfl _ _ rfl w.heap.size _ _ _ _ (ho1.alloc _) rfl k w1.heap.size 1 rfl ?hc ?hn ?hbase ?_)
        case hc => simp
        case hn => omega
        case hbase => have := hb2.size; simp [World.drew]; omega
        intro A' c' w2 ho2 hg2
        go_wp2
        go_roundw
        case rel => exact ⟨k + 1, A', n + 1, c', by omega, by go_num, rfl, by rw [HE.out]; exact ho2, by omega, below_app hb2 hb2.size ho1 (Nat.le_refl _) hg2⟩
        case measure => simp [intOf]; omega
      · have ho1 := OR.below ho hb1 (Nat.le_refl _)
        have hb2 := below_trans hb (Nat.le_refl _) hb1
        have HE := Lib.hid (peelPl_no (l := l) (k := k) (by simp [peelB, HP.out, hok]))
        clear hok
        go_wp2
        go_roundw
        case rel => exact ⟨k + 1, _, n, c1, by omega, by go_num, rfl, by rw [HE.out]; exact ho1, by omega, hb2⟩
        case measure => simp [intOf]; omega
    · obtain rfl : k = l.length := by omega
      go_wp2
      go_ret
      exact RetI.of ho hb