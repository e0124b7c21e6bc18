/- The program's PeelLoop, and PeelPlaces of both. -/
import Derived.Test.YtcaibhjdahmjeaaConcat
import Derived.Test.YtcaibhjdahmjeaaPeelS
namespace Go.Proofs.Ytcaibhjdahmjeaa
open Go.RowKit
set_option linter.unusedVariables false
set_option linter.unusedSimpArgs false

set_option maxRecDepth 100000 in
set_option maxHeartbeats 4000000 in
theorem iPeelLoop_c (A : Option Addr) (c : Nat) (l : List Cd) (k : Int) (w : World) (hA : RdC w w.heap.size A l) (hl : l.length ≤ 1000000000) (hc : A = none → c = 0) (hcap : l.length ≤ c) :
    Calls Try.prog 31 #[.slice A l.length c, .int .i64 k] w (RetCb w (peelR l k) (peelB l k)) := by
  cases hp : pv l with
  | false =>
    have h1 : peelR l k = [] := by simp [peelR, hp]
    have h2 : peelB l k = false := by simp [peelB, hp]
    rw [h1, h2]
    go_enter Try.func31, Try.ntmps31
    go_wp2_with fail
    refine (iProgramValid_c A c l w hA hl).mono ?_
    rintro e w1 ⟨rfl, hb1⟩
    rw [hp]
    go_wp2
    go_ret2
    exact RetCb.of (OC.nil_ w1 _) hb1
  | true =>
    have hR := Lib.hid (show peelR l k = if peelOk l k then peelOut l k.toNat else l by simp [peelR, hp])
    have hB := Lib.hid (show peelB l k = peelOk l k by simp [peelB, hp])
    go_enter Try.func31, Try.ntmps31
    go_wp2_with fail
    refine (iProgramValid_c A c l w hA hl).mono ?_
    rintro e w1 ⟨rfl, hb1⟩
    rw [hp]
    have hA1 := (hA.below hb1).more hb1.size
    go_wp2_with fail
    refine (ipeel_c A c l k w1 hA1 hp hcap).mono ?_
    rintro e w2 (⟨hok, A2, c2, rfl, ho2, hb2⟩ | ⟨hok, hb2, v, rfl⟩)
    · have hok' := Lib.hid hok
      clear hok
      have hb3 := below_trans hb1 (Nat.le_refl _) hb2
      go_wp2
      go_ret2
      rw [hR.out, hB.out, hok'.out]
      exact RetCb.of (OR.mono ho2 hb1.size) hb3
    · have hok' := Lib.hid hok
      clear hok
      have hb3 := below_trans hb1 (Nat.le_refl _) hb2
      go_wp2_with fail
      refine (cloneC_c A c l w2 ((hA.below hb3).more hb3.size) hl hc).mono ?_
      rintro e w3 ⟨A3, c3, rfl, ho3, hb4⟩
      have hb5 := below_trans hb3 (Nat.le_refl _) hb4
      go_wp2
      go_ret2
      rw [hR.out, hB.out, hok'.out]
      exact RetCb.of (OR.mono ho3 hb3.size) hb5

def PPRel (w : World) (l : List Cd) (ov iv : Value) (wr : World) : Prop :=
  ∃ (k : Nat) (A : Option Addr) (n c : Nat), k ≤ l.length ∧ iv = .int .i64 k ∧ ov = .slice A n c ∧ OI wr w.heap.size A n c (peelPl l k) ∧ n ≤ k ∧ Below w.heap.size w wr

set_option maxRecDepth 100000 in
set_option maxHeartbeats 4000000 in
theorem sPeelPlaces_c (A : Option Addr) (c : Nat) (l : List Cd) (w : World) (hA : RdC w w.heap.size A l) (hl : l.length ≤ 1000000000) (hc : A = none → c = 0) (hcap : l.length ≤ c) :
    Calls Try.prog 89 #[.slice A l.length c] w (RetI w (peelPl l l.length)) := by
  go_enter Try.func89, Try.ntmps89
  go_wp2
  go_loopw [3, 4] (fun ov iv wr => PPRel w l ov iv wr) (fun _ i _ => l.length - (intOf i).toNat)
  case atStart => exact ⟨0, _, 0, 0, Nat.zero_le _, rfl, rfl, OI.empty_ w _ (Nat.le_refl _), Nat.le_refl _, (by repeat (first | exact Below.refl _ _ | assumption | refine Below.alloc ?_ (by simp <;> omega) _ | refine Below.setCell ?_ (by simp <;> omega) _ | refine Below.drew ?_))⟩
  case round =>
    obtain ⟨k, A1, n, c1, hk, rfl, rfl, ho, hn, hb⟩ := hrel
    by_cases hlt : k < l.length
    · go_wp2_with fail
      refine (sPeelLoop_c A c l k wr ((hA.below hb).more hb.size) hl hc hcap).mono ?_
      rintro e w1 ⟨A2, c2, rfl, _, hb1⟩
      have ho1 := OR.below ho hb1 (Nat.le_refl _)
      have hb2 := below_trans hb (Nat.le_refl _) hb1
      cases h : peelB l (k : Int) with
      | false =>
        have HE := Lib.hid (peelPl_no h)
        clear h
        go_wp2
        go_roundw
        case rel => exact ⟨k + 1, _, n, c1, by omega, by go_num, rfl, by rw [HE.out]; exact ho1, by omega, hb2⟩
        case measure => simp [intOf]; omega
      | true =>
        have HE := Lib.hid (peelPl_yes h)
        clear h
        go_wp2_with (at_builtin; refine app_int rfl _ _ rfl w.heap.size _ _ _ _ (ho1.alloc _) rfl k w1.heap.size 1 rfl ?hc ?hn ?hbase ?_)
        case hc => simp
        case hn => omega
        case hbase => have := hb2.size; simp [World.drew]; omega
        intro A' c' w2 ho2 hg2
        go_wp2
        go_roundw
        case rel => exact ⟨k + 1, A', n + 1, c', by omega, by go_num, rfl, by rw [HE.out]; exact ho2, by omega, below_app hb2 hb2.size ho1 (Nat.le_refl _) hg2⟩
        case measure => simp [intOf]; omega
    · obtain rfl : k = l.length := by omega
      go_wp2
      go_ret
      exact RetI.of ho hb

set_option maxRecDepth 100000 in
set_option maxHeartbeats 4000000 in
theorem ipeelPlaces_c (A : Option Addr) (c : Nat) (l : List Cd) (w : World) (hA : RdC w w.heap.size A l) (hp : pv l = true) (hcap : l.length ≤ c) :
    Calls Try.prog 88 #[.slice A l.length c] w (RetI w (peelPl l l.length)) := by
  have h40 := (pv_iff.1 hp).1
  have HP := Lib.hid hp
  clear hp
  go_enter Try.func88, Try.ntmps88
  go_wp2
  go_loopw [3, 9] (fun ov iv wr => PPRel w l ov iv wr) (fun _ i _ => l.length - (intOf i).toNat)
  case atStart => exact ⟨0, _, 0, 0, Nat.zero_le _, rfl, rfl, OI.nil_ _ _, Nat.le_refl _, Below.refl _ _⟩
  case round =>
    obtain ⟨k, A1, n, c1, hk, rfl, rfl, ho, hn, hb⟩ := hrel
    by_cases hlt : k < l.length
    · go_wp2_with fail
      refine (ipeel_c A c l k wr ((hA.below hb).more hb.size) HP.out hcap).mono ?_
      rintro e w1 (⟨hok, A2, c2, rfl, _, hb1⟩ | ⟨hok, hb1, v, rfl⟩)
      · have ho1 := OR.below ho hb1 (Nat.le_refl _)
        have hb2 := below_trans hb (Nat.le_refl _) hb1
        have HE := Lib.hid (peelPl_yes (l := l) (k := k) (by simp [peelB, HP.out, hok]))
        clear hok
        go_wp2_with (at_builtin; refine app_int rfl _ _ rfl w.heap.size _ _ _ _ (ho1.alloc _) rfl k w1.heap.size 1 rfl ?hc ?hn ?hbase ?_)
        case hc => simp
        case hn => omega
        case hbase => have := hb2.size; simp [World.drew]; omega
        intro A' c' w2 ho2 hg2
        go_wp2
        go_roundw
        case rel => exact ⟨k + 1, A', n + 1, c', by omega, by go_num, rfl, by rw [HE.out]; exact ho2, by omega, below_app hb2 hb2.size ho1 (Nat.le_refl _) hg2⟩
        case measure => simp [intOf]; omega
      · have ho1 := OR.below ho hb1 (Nat.le_refl _)
        have hb2 := below_trans hb (Nat.le_refl _) hb1
        have HE := Lib.hid (peelPl_no (l := l) (k := k) (by simp [peelB, HP.out, hok]))
        clear hok
        go_wp2
        go_roundw
        case rel => exact ⟨k + 1, _, n, c1, by omega, by go_num, rfl, by rw [HE.out]; exact ho1, by omega, hb2⟩
        case measure => simp [intOf]; omega
    · obtain rfl : k = l.length := by omega
      go_wp2
      go_ret
      exact RetI.of ho hb