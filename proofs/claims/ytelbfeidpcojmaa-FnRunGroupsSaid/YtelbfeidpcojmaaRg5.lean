/- Part 5 of what the claim needs. -/
import Derived.Test.YtelbfeidpcojmaaRg1
import Derived.Test.YtelbfeidpcojmaaRg2
import Derived.Test.YtelbfeidpcojmaaRg3
import Derived.Test.YtelbfeidpcojmaaRg4
import Derived.Deep.RegionHeld3
import Derived.StillTailTactics
import Derived.IntWalk
namespace Go.Proofs.Ytelbfeidpcojmaa
open Go.RowKit
set_option linter.unusedVariables false
set_option linter.unusedSimpArgs false

set_option maxRecDepth 100000 in
set_option maxHeartbeats 2000000 in
theorem sCodeValid_c (x : Cd) (w : World) :
    Calls Try.prog 101 #[x.val] w fun e w' => e = .returned (.bool (cvOk x)) ∧ Below w.heap.size w w' := by
  obtain ⟨o, a, b, c⟩ := x
  unfold Cd.val
  go_enter Try.func101, Try.ntmps101
  go_wp2_with (first | (go_at_call 72; refine (l1In_c _ _ _ _).mono ?_; rintro e w' ⟨rfl, rfl⟩) | (go_at_call 102; refine (l2Word_c _ _).mono ?_; rintro e w' ⟨rfl, rfl⟩))
  all_goals go_ret
  all_goals refine ⟨retb ?_, (Below.refl _ _).alloc (Nat.le_refl _) _⟩
  all_goals (unfold cvOk; simp_all; done)

theorem pvRun_take {l : List Cd} {k : Nat} {x : Cd} {st st' : List Int} (hx : l[k]? = some x) (h : pvRun [] (l.take k) = some st) (hs : pvStep st x = some st') : pvRun [] (l.take (k + 1)) = some st' := by
  obtain ⟨hk, rfl⟩ := List.getElem?_eq_some_iff.1 hx
  rw [List.take_succ_eq_append_getElem hk, pvRun_append, h]
  simp [pvRun, hs]
theorem pv_fail {l : List Cd} {k : Nat} {x : Cd} {st : List Int} (hx : l[k]? = some x) (h : pvRun [] (l.take k) = some st) (hs : pvStep st x = none) : pv l = false := by
  obtain ⟨hk, rfl⟩ := List.getElem?_eq_some_iff.1 hx
  have e : pvRun [] l = none := by
    conv => lhs; rw [← List.take_append_drop k l]
    rw [pvRun_append, h, List.drop_eq_getElem_cons hk]
    simp [pvRun, hs]
  simp [pv, e]

theorem step_bad {st : List Int} {x : Cd} (h : cvOk x = false) : pvStep st x = none := by simp [pvStep, h]
theorem step_open {st : List Int} {x : Cd} (h : cvOk x = true) (ho : x.op = 11 ∨ x.op = 13) : pvStep st x = if st.length < 3 then some (x.op :: st) else none := by
  rcases ho with ho | ho <;> simp [pvStep, h, ho]
theorem step_else {m : Int} {t : List Int} {x : Cd} (h : cvOk x = true) (ho : x.op = 12) : pvStep (m :: t) x = if m = 11 then some (12 :: t) else none := by
  simp [pvStep, h, ho]
theorem step_else0 {x : Cd} (h : cvOk x = true) (ho : x.op = 12) : pvStep [] x = none := by simp [pvStep, h, ho]
theorem step_end {m : Int} {t : List Int} {x : Cd} (h : cvOk x = true) (ho : x.op = 14) : pvStep (m :: t) x = some t := by simp [pvStep, h, ho]
theorem step_end0 {x : Cd} (h : cvOk x = true) (ho : x.op = 14) : pvStep [] x = none := by simp [pvStep, h, ho]
theorem step_same {st : List Int} {x : Cd} (h : cvOk x = true) (h1 : x.op ≠ 11) (h2 : x.op ≠ 13) (h3 : x.op ≠ 12) (h4 : x.op ≠ 14) : pvStep st x = some st := by simp [pvStep, h, h1, h2, h3, h4]

/-- The relation of the loop. -/
def SVRel (w : World) (l : List Cd) (op i : Value) (wr : World) : Prop :=
  ∃ (k : Nat) (A : Option Addr) (st : List Int) (c : Nat), k ≤ l.length ∧ i = .int .i64 k ∧ op = .slice A st.length c ∧ OI wr w.heap.size A st.length c st.reverse ∧
    Hid (pvRun [] (l.take k) = some st) ∧ st.length ≤ 3 ∧ Below w.heap.size w wr

set_option maxRecDepth 100000 in
set_option maxHeartbeats 2000000 in
theorem sProgramValid_c (A : Option Addr) (c : Nat) (l : List Cd) (w : World) (hA : RdC w w.heap.size A l) (hl : l.length ≤ 1000000000) :
    Calls Try.prog 66 #[.slice A l.length c] w fun e w' => e = .returned (.bool (pv l)) ∧ Below w.heap.size w w' := by
  go_enter Try.func66, Try.ntmps66
  go_wp2
  go_loopw [3, 4] (fun op i wr => SVRel w l op i wr) (fun _ i _ => l.length - (intOf i).toNat)
  case atStart => exact ⟨0, _, [], 0, Nat.zero_le _, rfl, rfl, OR.lit w _ _ 1 0 #[] (Nat.le_refl _) (by omega) rfl, rfl, by simp, (by repeat (first | exact Below.refl _ _ | assumption | refine Below.alloc ?_ (by simp <;> omega) _ | refine Below.setCell ?_ (by simp <;> omega) _ | refine Below.drew ?_))⟩
  case round =>
    obtain ⟨k, A1, st, c1, hk, rfl, rfl, ho, HP, hs3, hb⟩ := hrel
    by_cases hlt : k < l.length
    · obtain ⟨b, off, x, rfl, hbB, hx, c0, c1', c2, c3⟩ := (hA.below hb).at_ hlt
      have HX := Lib.hid hx
      clear hx
      go_wp2_with fail
      refine (sCodeValid_c x _).mono ?_
      rintro e w1 ⟨rfl, hb1⟩
      have hb2 := below_trans hb (Nat.le_refl _) hb1
      have ho1 := ho.below hb1 (Nat.le_refl _)
      replace c0 := cell_kept hb1 c0
      clear c1' c2 c3
      cases hv : cvOk x with
      | false =>
        go_wp2
        go_ret
        exact ⟨retb (pv_fail HX.out HP.out (step_bad hv)).symm, hb2⟩
      | true =>
        by_cases h11 : x.op = 11 ∨ x.op = 13
        · have hstep := step_open (st := st) hv h11
          by_cases h3 : st.length < 3
          · rw [if_pos h3] at hstep
            have HS := Lib.hid hstep
            clear hstep
            rcases h11 with h | h
            all_goals
              first | have e11 : (x.op == 11) = true := by simp [h] | have e11 : (x.op == 11) = false := by simp [h]
              first | have e13 : (x.op == 13) = true := by simp [h] | have e13 : (x.op == 13) = false := by simp [h]
              have h4 : ¬ 3 < st.length + 1 := by omega
              clear h
              go_wp2_with (at_builtin; refine app_int rfl _ _ rfl w.heap.size _ _ _ _ (ho1.alloc _) rfl x.op w1.heap.size 1 rfl ?hc ?hn ?hbase ?_)
              case hc => simp
              case hn => omega
              case hbase => have := hb2.size; simp; omega
              intro A' c' w2 ho2 hg2
              go_wp2
              go_roundw
              case rel => exact ⟨k + 1, A', x.op :: st, c', by omega, by go_num, rfl, by simpa using ho2, Lib.hid (pvRun_take HX.out HP.out HS.out), by simp; omega, below_app hb2 (Nat.le_trans hb.size hb1.size) ho1 (Nat.le_refl _) hg2⟩
              case measure => simp [intOf]; omega
          · rw [if_neg h3] at hstep
            have HS := Lib.hid hstep
            clear hstep
            rcases h11 with h | h
            all_goals
              first | have e11 : (x.op == 11) = true := by simp [h] | have e11 : (x.op == 11) = false := by simp [h]
              first | have e13 : (x.op == 13) = true := by simp [h] | have e13 : (x.op == 13) = false := by simp [h]
              have h4 : 3 < st.length + 1 := by omega
              clear h
              go_wp2_with (at_builtin; refine app_int rfl _ _ rfl w.heap.size _ _ _ _ (ho1.alloc _) rfl x.op w1.heap.size 1 rfl ?hc ?hn ?hbase ?_)
              case hc => simp
              case hn => omega
              case hbase => have := hb2.size; simp; omega
              intro A' c' w2 ho2 hg2
              go_wp2
              go_ret
              exact ⟨retb (pv_fail HX.out HP.out HS.out).symm, below_app hb2 (Nat.le_trans hb.size hb1.size) ho1 (Nat.le_refl _) hg2⟩
        · have n11 : x.op ≠ 11 := fun h => h11 (.inl h)
          have n13 : x.op ≠ 13 := fun h => h11 (.inr h)
          have e11 : (x.op == 11) = false := beq_eq_false_iff_ne.2 n11
          have e13 : (x.op == 13) = false := beq_eq_false_iff_ne.2 n13
          clear h11
          by_cases h12 : x.op = 12
          · have e12 : (x.op == 12) = true := beq_iff_eq.2 h12
            cases st with
            | nil =>
              have HS := Lib.hid (step_else0 hv h12)
              clear h12 n11 n13
              go_wp2
              go_ret
              exact ⟨retb (pv_fail HX.out HP.out HS.out).symm, hb2⟩
            | cons m st =>
              have hstep := step_else (m := m) (t := st) hv h12
              obtain ⟨g, rfl, hg1, hg2, hcell, hfr, hset⟩ := ho1.at_ (by simp)
              have hm := hcell st.length (.int .i64 m) (by simp)
              have hf := hfr st.length
              have hs := hset st.length (.int .i64 12)
              have HL := Lib.hid hcell
              clear hcell hfr hset h12 n11 n13
              by_cases hm11 : m = 11
              · rw [if_pos hm11] at hstep
                have HS := Lib.hid hstep
                have em : (m != 11) = false := by simp [hm11]
                clear hstep hm11
                have h4 : ¬ 3 < st.length + 1 := by simp at hs3; omega
                go_wp2
                go_roundw
                case rel =>
                  refine ⟨k + 1, _, 12 :: st, _, by omega, by go_num, rfl, ?_, Lib.hid (pvRun_take HX.out HP.out HS.out), by simp at hs3 ⊢; omega, hb2.setCell hg1 _⟩
                  have e : ((m :: st).reverse.map (Value.int .i64)).set st.length (.int .i64 12) = (12 :: st).reverse.map (Value.int .i64) := by
                    rw [List.reverse_cons, List.map_append, List.set_append_right (h := by simp)]
                    simp
                  rw [e] at hs
                  exact hs
                case measure => simp [intOf]; omega
              · rw [if_neg hm11] at hstep
                have HS := Lib.hid hstep
                have em : (m != 11) = true := by simp [hm11]
                clear hstep hm11
                go_wp2
                go_ret
                exact ⟨retb (pv_fail HX.out HP.out HS.out).symm, hb2⟩
          · have e12 : (x.op == 12) = false := beq_eq_false_iff_ne.2 h12
            by_cases h14 : x.op = 14
            · have e14 : (x.op == 14) = true := beq_iff_eq.2 h14
              cases st with
              | nil =>
                have HS := Lib.hid (step_end0 hv h14)
                clear h12 n11 n13 h14
                go_wp2
                go_ret
                exact ⟨retb (pv_fail HX.out HP.out HS.out).symm, hb2⟩
              | cons m st =>
                have HS := Lib.hid (step_end (m := m) (t := st) hv h14)
                have ht := ho1.take_ (m := st.length) (by simp)
                clear h12 n11 n13 h14
                have h4 : ¬ 3 < st.length := by simp at hs3; omega
                have h5 : st.length ≤ c1 := by have := ho1.cap_; simp at this; omega
                go_wp2
                go_roundw
                case rel =>
                  refine ⟨k + 1, _, st, _, by omega, by go_num, rfl, ?_, Lib.hid (pvRun_take HX.out HP.out HS.out), by omega, hb2⟩
                  have e : ((m :: st).reverse.map (Value.int .i64)).take (st.length * 1) = st.reverse.map (Value.int .i64) := by
                    rw [List.reverse_cons, List.map_append, List.take_append_of_le_length (by simp), List.take_of_length_le (by simp)]
                  rw [e] at ht
                  exact ht
                case measure => simp [intOf]; omega
            · have e14 : (x.op == 14) = false := beq_eq_false_iff_ne.2 h14
              have HS := Lib.hid (step_same (st := st) hv n11 n13 h12 h14)
              have h4 : ¬ 3 < st.length := by omega
              clear h12 n11 n13 h14
              go_wp2
              go_roundw
              case rel => exact ⟨k + 1, _, st, _, by omega, by go_num, rfl, ho1, Lib.hid (pvRun_take HX.out HP.out HS.out), hs3, hb2⟩
              case measure => simp [intOf]; omega
    · obtain rfl : k = l.length := by omega
      have hp := HP.out
      rw [List.take_length] at hp
      have HQ := Lib.hid hp
      clear hp
      go_wp2_with fail
      all_goals go_ret
      all_goals refine ⟨retb ?_, hb⟩
      all_goals (unfold pv; rw [HQ.out])
      · have h : st = [] := by assumption
        subst h
        simp only [Bool.and_true]
        exact decide_eq_decide.2 (by omega)
      · have h : ¬ st = [] := by assumption
        cases st with
        | nil => exact absurd rfl h
        | cons m st => simp

def chk (o : Int) (i : Nat) (n : Int) : Bool :=
  if (i : Int) < regsN o then inR n 0 3 else if i == 1 && o == 1 then inR n 0 255 else if i == 1 && o == 13 then inR n 1 4 else n == 0

theorem chk_all (x : Cd) : (chk x.op 0 x.a && (chk x.op 1 x.b && (chk x.op 2 x.c && inR x.op 1 14))) = cvOk x := by
  rcases x with ⟨o, a, b, c⟩
  simp only
  by_cases h : 1 ≤ o ∧ o ≤ 14
  · obtain ⟨h1, h2⟩ := h
    have : o = 1 ∨ o = 2 ∨ o = 3 ∨ o = 4 ∨ o = 5 ∨ o = 6 ∨ o = 7 ∨ o = 8 ∨ o = 9 ∨ o = 10 ∨ o = 11 ∨ o = 12 ∨ o = 13 ∨ o = 14 := by omega
    rcases this with rfl | rfl | rfl | rfl | rfl | rfl | rfl | rfl | rfl | rfl | rfl | rfl | rfl | rfl <;> simp [chk, regsN, cvOk, inR, Bool.and_assoc]
  · have e : ∀ k : Int, 1 ≤ k → k ≤ 14 → (o == k) = false := fun k a b => by rw [beq_eq_false_iff_ne]; omega
    have e2 : inR o 1 14 = false := by rw [inR_not]; omega
    simp [chk, regsN, cvOk, e, e2]

def numAt (a b c : Int) (k : Nat) : Int := if k = 0 then a else if k = 1 then b else c

set_option maxRecDepth 100000 in
set_option maxHeartbeats 2000000 in
theorem iCodeValid_c (x : Cd) (w : World) :
    Calls Try.prog 111 #[x.val] w fun e w' => e = .returned (.bool (cvOk x)) ∧ Below w.heap.size w w' := by
  have HC := Lib.hid (chk_all x)
  obtain ⟨o, a, b, c⟩ := x
  unfold Cd.val
  go_enter Try.func111, Try.ntmps111
  go_wp2
  have hb0 : Below w.heap.size w ((w.alloc (.cells #[.int .i64 o, .int .i64 a, .int .i64 b, .int .i64 c] 68)).alloc (.cells #[.int .i64 a, .int .i64 b, .int .i64 c] 3)) := (by repeat (first | exact Below.refl _ _ | assumption | refine Below.alloc ?_ (by simp <;> omega) _ | refine Below.setCell ?_ (by simp <;> omega) _ | refine Below.drew ?_))
  have hop : ((w.alloc (.cells #[.int .i64 o, .int .i64 a, .int .i64 b, .int .i64 c] 68)).alloc (.cells #[.int .i64 a, .int .i64 b, .int .i64 c] 3)).cell? ⟨w.heap.size, 0, none⟩ = some (.int .i64 o) := by simp [go_sem]
  have hn : ∀ k, k < 3 → ((w.alloc (.cells #[.int .i64 o, .int .i64 a, .int .i64 b, .int .i64 c] 68)).alloc (.cells #[.int .i64 a, .int .i64 b, .int .i64 c] 3)).cell? ⟨w.heap.size + 1, k, none⟩ = some (.int .i64 (numAt a b c k)) := by
    intro k hk
    have : k = 0 ∨ k = 1 ∨ k = 2 := by omega
    rcases this with rfl | rfl | rfl <;> simp [go_sem, numAt]
  generalize (w.alloc (.cells #[.int .i64 o, .int .i64 a, .int .i64 b, .int .i64 c] 68)).alloc (.cells #[.int .i64 a, .int .i64 b, .int .i64 c] 3) = w1 at *
  have HN := Lib.hid hn
  clear hn
  go_loop [15] (fun i => ∃ k : Nat, k ≤ 3 ∧ i = .int .i64 k ∧ Hid (∀ j, j < k → chk o j (numAt a b c j) = true)) (fun i => 3 - (intOf i).toNat)
  case atStart => exact ⟨0, by omega, rfl, fun j hj => by omega⟩
  case round =>
    obtain ⟨k, hk, rfl, HP⟩ := hrel
    by_cases hlt : k < 3
    · have h3 : k = 0 ∨ k = 1 ∨ k = 2 := by omega
      clear hk hlt
      rcases h3 with rfl | rfl | rfl
      case inl =>
        have hc := HN.out 0 (by omega)
        have hz : numAt a b c 0 = a := rfl
        rw [hz] at hc
        have HZ := Lib.hid hz
        clear hz
        go_wp2_with (first | (go_at_call 127; refine (registers_c _ _).mono ?_; rintro e w' ⟨rfl, rfl⟩) | (go_at_call 128; refine (isReg_c _ _).mono ?_; rintro e w' ⟨rfl, rfl⟩) | (go_at_call 113; refine (isWord_c _ _).mono ?_; rintro e w' ⟨rfl, rfl⟩) | (go_at_call 82; refine (within_c _ _ _ _).mono ?_; rintro e w' ⟨rfl, rfl⟩))
        all_goals
          first
            | (go_ret
               have hf : chk o 0 a = false := by (unfold chk; first | (rw [if_pos (by omega)]; simp_all; done) | (rw [if_neg (by omega)]; simp_all; done))
               have hx := HC.out
               simp only [hf] at hx
               exact ⟨retb (by simpa using hx), hb0⟩)
            | (have hf : chk o 0 a = true := by (unfold chk; first | (rw [if_pos (by omega)]; simp_all; done) | (rw [if_neg (by omega)]; simp_all; done))
               go_round
               case rel => exact ⟨1, by omega, by go_num, fun j hj => by obtain rfl : j = 0 := (by omega); rw [HZ.out]; exact hf⟩
               case measure => simp [intOf])
      case inr.inl =>
        have hc := HN.out 1 (by omega)
        have hz : numAt a b c 1 = b := rfl
        rw [hz] at hc
        have HZ := Lib.hid hz
        clear hz
        go_wp2_with (first | (go_at_call 127; refine (registers_c _ _).mono ?_; rintro e w' ⟨rfl, rfl⟩) | (go_at_call 128; refine (isReg_c _ _).mono ?_; rintro e w' ⟨rfl, rfl⟩) | (go_at_call 113; refine (isWord_c _ _).mono ?_; rintro e w' ⟨rfl, rfl⟩) | (go_at_call 82; refine (within_c _ _ _ _).mono ?_; rintro e w' ⟨rfl, rfl⟩))
        all_goals
          first
            | (go_ret
               have hf : chk o 1 b = false := by (unfold chk; first | (rw [if_pos (by omega)]; simp_all; done) | (rw [if_neg (by omega)]; simp_all; done))
               have hx := HC.out
               simp only [hf] at hx
               exact ⟨retb (by simpa using hx), hb0⟩)
            | (have hf : chk o 1 b = true := by (unfold chk; first | (rw [if_pos (by omega)]; simp_all; done) | (rw [if_neg (by omega)]; simp_all; done))
               go_round
               case rel => exact ⟨2, by omega, by go_num, fun j hj => by
                 by_cases hj0 : j = 0
                 · subst hj0; exact HP.out 0 (by omega)
                 · obtain rfl : j = 1 := by omega
                   rw [HZ.out]; exact hf⟩
               case measure => simp [intOf])
      case inr.inr =>
        have hc := HN.out 2 (by omega)
        have hz : numAt a b c 2 = c := rfl
        rw [hz] at hc
        have HZ := Lib.hid hz
        clear hz
        go_wp2_with (first | (go_at_call 127; refine (registers_c _ _).mono ?_; rintro e w' ⟨rfl, rfl⟩) | (go_at_call 128; refine (isReg_c _ _).mono ?_; rintro e w' ⟨rfl, rfl⟩) | (go_at_call 113; refine (isWord_c _ _).mono ?_; rintro e w' ⟨rfl, rfl⟩) | (go_at_call 82; refine (within_c _ _ _ _).mono ?_; rintro e w' ⟨rfl, rfl⟩))
        all_goals
          first
            | (go_ret
               have hf : chk o 2 c = false := by (unfold chk; first | (rw [if_pos (by omega)]; simp_all; done) | (rw [if_neg (by omega)]; simp_all; done))
               have hx := HC.out
               simp only [hf] at hx
               exact ⟨retb (by simpa using hx), hb0⟩)
            | (have hf : chk o 2 c = true := by (unfold chk; first | (rw [if_pos (by omega)]; simp_all; done) | (rw [if_neg (by omega)]; simp_all; done))
               go_round
               case rel => exact ⟨3, by omega, by go_num, fun j hj => by
                 by_cases hj0 : j = 2
                 · subst hj0
                   rw [HZ.out]; exact hf
                 · exact HP.out j (by omega)⟩
               case measure => simp [intOf])
    · obtain rfl : k = 3 := by omega
      go_wp2_with (go_at_call 82; refine (within_c _ _ _ _).mono ?_; rintro e w' ⟨rfl, rfl⟩)
      go_ret
      have h0 := HP.out 0 (by omega)
      have h1 := HP.out 1 (by omega)
      have h2 := HP.out 2 (by omega)
      have hx := HC.out
      simp [numAt] at h0 h1 h2
      simp only [h0, h1, h2, Bool.true_and] at hx
      exact ⟨retb hx, hb0⟩


/-- w' is w but for the blocks b and c, and new blocks. -/
structure Off (w w' : World) (b c : Nat) : Prop where
  os : w'.os = w.os
  tape : w'.tape = w.tape
  output : w'.output = w.output
  size : w.heap.size ≤ w'.heap.size
  block : ∀ k, k < w.heap.size → k ≠ b → k ≠ c → w'.heap[k]? = w.heap[k]?
theorem Off.refl (w : World) (b c : Nat) : Off w w b c := ⟨rfl, rfl, rfl, Nat.le_refl _, fun _ _ _ _ => rfl⟩
theorem Off.alloc {w w' : World} {b c : Nat} (h : Off w w' b c) (o : Obj) : Off w (w'.alloc o) b c :=
  ⟨h.os, h.tape, h.output, Nat.le_trans h.size (by simp), fun k hk h1 h2 => (Below.heap_alloc _ _ _ (Nat.lt_of_lt_of_le hk h.size)).trans (h.block k hk h1 h2)⟩
theorem Off.drew {w w' : World} {b c : Nat} (h : Off w w' b c) : Off w w'.drew b c := ⟨h.os, h.tape, h.output, h.size, h.block⟩
theorem Off.set1 {w w' : World} {b c : Nat} (h : Off w w' b c) (i : Nat) (u : Value) : Off w (w'.setCell ⟨b, i, none⟩ u) b c :=
  ⟨h.os, h.tape, h.output, by rw [size_set]; exact h.size, fun k hk h1 h2 => (heap_set_other h1 i u).trans (h.block k hk h1 h2)⟩
theorem Off.set2 {w w' : World} {b c : Nat} (h : Off w w' b c) (i : Nat) (u : Value) : Off w (w'.setCell ⟨c, i, none⟩ u) b c :=
  ⟨h.os, h.tape, h.output, by rw [size_set]; exact h.size, fun k hk h1 h2 => (heap_set_other h2 i u).trans (h.block k hk h1 h2)⟩

theorem sWordAdd_c (a b : Int) (w : World) (ha : 0 ≤ a ∧ a ≤ 255) (hb : 0 ≤ b ∧ b ≤ 255) :
    Calls Try.prog 108 #[.int .i64 a, .int .i64 b] w fun e w' => e = .returned (.int .i64 ((a + b) % 256)) ∧ w = w' := by
  have h1 : inR a 0 255 = true := inR_iff.2 ha
  have h2 : inR b 0 255 = true := inR_iff.2 hb
  obtain ⟨a1, a2⟩ := ha
  obtain ⟨b1, b2⟩ := hb
  go_enter Try.func108, Try.ntmps108
  go_wp2_with (go_at_call 102; refine (l2Word_c _ _).mono ?_; rintro e w' ⟨rfl, rfl⟩)
  go_ret
  exact ⟨rfl, rfl⟩

theorem sWordMul_c (a b : Int) (w : World) (ha : 0 ≤ a ∧ a ≤ 255) (hb : 0 ≤ b ∧ b ≤ 255) :
    Calls Try.prog 109 #[.int .i64 a, .int .i64 b] w fun e w' => e = .returned (.int .i64 (a * b % 256)) ∧ w = w' := by
  have h1 : inR a 0 255 = true := inR_iff.2 ha
  have h2 : inR b 0 255 = true := inR_iff.2 hb
  have p1 : 0 ≤ a * b := Int.mul_nonneg ha.1 hb.1
  have p2 : a * b ≤ 65025 := by
    have := Int.mul_le_mul ha.2 hb.2 hb.1 (by omega)
    omega
  obtain ⟨a1, a2⟩ := ha
  obtain ⟨b1, b2⟩ := hb
  go_enter Try.func109, Try.ntmps109
  go_wp2_with (go_at_call 102; refine (l2Word_c _ _).mono ?_; rintro e w' ⟨rfl, rfl⟩)
  go_ret
  exact ⟨rfl, rfl⟩

theorem sWordLess_c (a b : Int) (w : World) (ha : 0 ≤ a ∧ a ≤ 255) (hb : 0 ≤ b ∧ b ≤ 255) :
    Calls Try.prog 110 #[.int .i64 a, .int .i64 b] w fun e w' => e = .returned (.int .i64 (lessI a b)) ∧ w = w' := by
  have h1 : inR a 0 255 = true := inR_iff.2 ha
  have h2 : inR b 0 255 = true := inR_iff.2 hb
  by_cases h : a < b
  all_goals
    go_enter Try.func110, Try.ntmps110
    go_wp2_with (go_at_call 102; refine (l2Word_c _ _).mono ?_; rintro e w' ⟨rfl, rfl⟩)
    go_ret
    exact ⟨reti (by simp [lessI, h]), rfl⟩

theorem iWordAdd_c (a b : Int) (w : World) (ha : 0 ≤ a ∧ a ≤ 255) (hb : 0 ≤ b ∧ b ≤ 255) :
    Calls Try.prog 129 #[.int .i64 a, .int .i64 b] w fun e w' => e = .returned (.int .i64 ((a + b) % 256)) ∧ w = w' := by
  have h1 : inR a 0 255 = true := inR_iff.2 ha
  have h2 : inR b 0 255 = true := inR_iff.2 hb
  obtain ⟨a1, a2⟩ := ha
  obtain ⟨b1, b2⟩ := hb
  go_enter Try.func129, Try.ntmps129
  go_wp2_with (go_at_call 113; refine (isWord_c _ _).mono ?_; rintro e w' ⟨rfl, rfl⟩)
  go_ret
  exact ⟨rfl, rfl⟩

theorem iWordMul_c (a b : Int) (w : World) (ha : 0 ≤ a ∧ a ≤ 255) (hb : 0 ≤ b ∧ b ≤ 255) :
    Calls Try.prog 130 #[.int .i64 a, .int .i64 b] w fun e w' => e = .returned (.int .i64 (a * b % 256)) ∧ w = w' := by
  have h1 : inR a 0 255 = true := inR_iff.2 ha
  have h2 : inR b 0 255 = true := inR_iff.2 hb
  have p1 : 0 ≤ a * b := Int.mul_nonneg ha.1 hb.1
  have p2 : a * b ≤ 65025 := by
    have := Int.mul_le_mul ha.2 hb.2 hb.1 (by omega)
    omega
  obtain ⟨a1, a2⟩ := ha
  obtain ⟨b1, b2⟩ := hb
  go_enter Try.func130, Try.ntmps130
  go_wp2_with (go_at_call 113; refine (isWord_c _ _).mono ?_; rintro e w' ⟨rfl, rfl⟩)
  go_ret
  exact ⟨rfl, rfl⟩

theorem iWordLess_c (a b : Int) (w : World) (ha : 0 ≤ a ∧ a ≤ 255) (hb : 0 ≤ b ∧ b ≤ 255) :
    Calls Try.prog 131 #[.int .i64 a, .int .i64 b] w fun e w' => e = .returned (.int .i64 (lessI a b)) ∧ w = w' := by
  have h1 : inR a 0 255 = true := inR_iff.2 ha
  have h2 : inR b 0 255 = true := inR_iff.2 hb
  by_cases h : a < b
  all_goals
    go_enter Try.func131, Try.ntmps131
    go_wp2_with (go_at_call 113; refine (isWord_c _ _).mono ?_; rintro e w' ⟨rfl, rfl⟩)
    go_ret
    exact ⟨reti (by simp [lessI, h]), rfl⟩

theorem rg_get {r : List Int} (hr : r.length = 4) {a : Nat} (ha : a ≤ 3) : r[a]? = some (rg r (a : Int)) := by
  have : a < r.length := by omega
  simp [rg, List.getD_eq_getElem?_getD, List.getElem?_eq_getElem this]

theorem calls_flip {f : FuncId} {args : Array Value} {w : World} {v : Value} (h : Calls Try.prog f args w fun e w' => e = .returned v ∧ w = w') : Calls Try.prog f args w fun e w' => e = .returned v ∧ w' = w :=
  h.mono fun _ _ ⟨h1, h2⟩ => ⟨h1, h2.symm⟩

/-- What one instruction leaves. -/
def Simp1 (w : World) (base rb rc mb mn mc : Nat) (x : Cd) (id : Nat) (r m : List Int) (w' : World) : Prop :=
  OI w' base (some ⟨rb, 0, none⟩) 4 rc (simp1 x id r m).1 ∧ OI w' base (some ⟨mb, 0, none⟩) mn mc (simp1 x id r m).2 ∧ Off w w' rb mb

theorem OR.off {w w' : World} {base e size n c b c' : Nat} {A : Option Addr} {xs : List Value} (h : OR w base e size A n c xs) (ho : Off w w' b c') (h1 : Value.ownBlock (.slice A n c) ≠ some b) (h2 : Value.ownBlock (.slice A n c) ≠ some c') : OR w' base e size A n c xs := by
  refine ⟨h.1, ?_⟩
  rcases h.2 with hn | ⟨g, cap, cur, hv, hbg, hg, r⟩
  · exact .inl hn
  · rw [hv] at h1 h2
    exact .inr ⟨g, cap, cur, hv, hbg, by rw [ho.block g (lt_of_block hg) (fun e => h1 (by rw [e]; rfl)) (fun e => h2 (by rw [e]; rfl))]; exact hg, r⟩
theorem Off.below {w w' : World} {b c B : Nat} (h : Off w w' b c) (hb : B ≤ b) (hc : B ≤ c) (hB : B ≤ w.heap.size) : Below B w w' :=
  ⟨h.os, h.tape, h.output, h.size, fun k hk => h.block k (by omega) (by omega) (by omega)⟩

theorem bit_tm (m k : Nat) : ((((m : Int) / 2 ^ k).tmod 2) == 1) = m.testBit k := by
  have e : ((m : Int) / 2 ^ k) = ((m >>> k : Nat) : Int) := by
    rw [Nat.shiftRight_eq_div_pow]; simp
  rw [e, Int.tmod_eq_emod_of_nonneg (Int.natCast_nonneg _)]
  have h2 : m.testBit k = decide ((m >>> k) % 2 = 1) := by
    have : (m >>> k).testBit 0 = m.testBit k := by rw [Nat.testBit_shiftRight]; simp
    rw [← this, Nat.testBit_zero]
  rw [h2]
  generalize m >>> k = q
  cases h : decide (q % 2 = 1) with
  | true => rw [beq_iff_eq]; have := of_decide_eq_true h; omega
  | false => rw [beq_eq_false_iff_ne]; have := of_decide_eq_false h; omega

theorem OR.byType {w w' : World} {base e size n c : Nat} {A : Option Addr} {xs : List Value} (h : OR w base e size A n c xs) (hk : ∀ (g : Nat) (cs : Array Value), w.heap[g]? = some (.cells cs e (0, 0)) → w'.heap[g]? = some (.cells cs e (0, 0))) : OR w' base e size A n c xs := by
  rcases h.2 with ⟨hv, hn⟩ | ⟨g, cap, cur, hv, hb, hg, hrest⟩
  · exact ⟨h.1, .inl ⟨hv, hn⟩⟩
  · exact ⟨h.1, .inr ⟨g, cap, cur, hv, hb, hk g cur hg, hrest⟩⟩
/-- Behind an append to a row, a block of another type reads as before. -/
theorem grown_cell {wb w2 : World} {base e size n c : Nat} {A : Option Addr} {xs : List Value} (hT : OR wb base e size A n c xs) (hg : wb.grownBy w2 (Value.ownBlock (.slice A n c))) {b : Nat} {cs : Array Value} {t : TypeId} (hb : wb.heap[b]? = some (.cells cs t (0, 0))) (hne : e ≠ t) (i : Nat) :
    w2.cell? ⟨b, i, none⟩ = wb.cell? ⟨b, i, none⟩ := by
  have h2 : w2.heap[b]? = some (.cells cs t (0, 0)) := (hg.block b (lt_of_block hb) (fun e' => own_ne hT hb hne e'.symm)).trans hb
  rw [cell_of_heap h2, cell_of_heap hb]
theorem grown_free {wb w2 : World} {base e size n c : Nat} {A : Option Addr} {xs : List Value} (hT : OR wb base e size A n c xs) (hg : wb.grownBy w2 (Value.ownBlock (.slice A n c))) {b : Nat} {cs : Array Value} {t : TypeId} (hb : wb.heap[b]? = some (.cells cs t (0, 0))) (hne : e ≠ t) (i : Nat) :
    w2.frozen? ⟨b, i, none⟩ = false := by
  have h2 : w2.heap[b]? = some (.cells cs t (0, 0)) := (hg.block b (lt_of_block hb) (fun e' => own_ne hT hb hne e'.symm)).trans hb
  exact free_of_heap h2 i

set_option maxRecDepth 100000 in
set_option maxHeartbeats 16000000 in
theorem compute_c (x : Cd) (id : Nat) (r m : List Int) (base rb rc mb mc mn : Nat) (w : World) (hv : cvOk x = true) (h10 : x.op ≤ 10) (hid : id ≤ 7)
    (hR : OI w base (some ⟨rb, 0, none⟩) 4 rc r) (hM : OI w base (some ⟨mb, 0, none⟩) mn mc m) (hne : rb ≠ mb) (hr : wordsOk r) (hm : wordsOk m) (hml : 1 ≤ mn ∧ mn ≤ 32) :
    Calls Try.prog 119 #[x.val, .int .i64 id, .slice (some ⟨rb, 0, none⟩) 4 rc, .slice (some ⟨mb, 0, none⟩) mn mc] w fun e w' => e = .returned (.tuple #[]) ∧ Simp1 w base rb rc mb mn mc x id r m w' := by
  have hrl : r.length = 4 := OI.len hR
  have hmn : m.length = mn := OI.len hM
  obtain ⟨hRb0, hRb1⟩ := OR.block hR rb rfl
  obtain ⟨hMb0, hMb1⟩ := OR.block hM mb rfl
  obtain ⟨hm1, hm2⟩ := hml
  have ha := cvOk_a hv
  have hb := cvOk_b hv
  have hc := cvOk_c hv
  have hb2 := cvOk_b2 hv
  have ho := op14' hv h10
  obtain ⟨a, hae⟩ := Int.eq_ofNat_of_zero_le ha.1
  obtain ⟨b, hbe⟩ := Int.eq_ofNat_of_zero_le hb.1
  obtain ⟨c, hce⟩ := Int.eq_ofNat_of_zero_le hc.1
  obtain ⟨o, xa, xb, xc⟩ := x
  simp only at ha hb hc hb2 hae hbe hce ho h10
  subst hae hbe hce
  have la : a ≤ 3 := by omega
  have lc : c ≤ 3 := by omega
  have a4 : (a : Int) < 4 := by omega
  have c4 : (c : Int) < 4 := by omega
  have ca := (OI.at0 hR).1 a _ (rg_get hrl la)
  have cc := (OI.at0 hR).1 c _ (rg_get hrl lc)
  have wa := rg_word hr a
  have wc := rg_word hr c
  have wb := rg_word hr b
  have fa := (OI.at0 hR).2.1 a
  have HR := Lib.hid hR
  have HM := Lib.hid hM
  have HRL := Lib.hid hrl
  have HMN := Lib.hid hmn
  have hob1 : Value.ownBlock (.slice (some ⟨mb, 0, none⟩) mn mc) ≠ some rb := fun e => hne (by injection e with e; exact e.symm)
  have hob2 : Value.ownBlock (.slice (some ⟨rb, 0, none⟩) 4 rc) ≠ some mb := fun e => hne (by injection e with e)
  have HO1 := Lib.hid hob1
  have HO2 := Lib.hid hob2
  have HX0 := Lib.hid (Off.refl w rb mb)
  clear hR hM hr hrl hmn hv hob1 hob2
  unfold Cd.val
  rcases ho with rfl | rfl | rfl | rfl | rfl | rfl | rfl | rfl | rfl | rfl
  · clear hb2 hm
    go_enter Try.func119, Try.ntmps119
    go_wp2
    go_end0
    exact ⟨rfl, OR.alloc ((OI.at0 HR.out).2.2 a b) _, OR.alloc (OR.set_other HM.out (p := ⟨rb, a, none⟩) HO1.out _) _, (HX0.out.set1 _ _).alloc _⟩
  · clear hb2 hm
    go_enter Try.func119, Try.ntmps119
    go_wp2
    go_end0
    exact ⟨rfl, OR.alloc ((OI.at0 HR.out).2.2 a id) _, OR.alloc (OR.set_other HM.out (p := ⟨rb, a, none⟩) HO1.out _) _, (HX0.out.set1 _ _).alloc _⟩
  · -- op 3
    have lb : b ≤ 3 := by have := hb2 (by omega); omega
    have b4 : (b : Int) < 4 := by omega
    have cb := (OI.at0 HR.out).1 b _ (rg_get HRL.out lb)
    clear hb2 hm
    go_enter Try.func119, Try.ntmps119
    go_wp2_with fail
    obtain ⟨d0, d1, d2, d3⟩ := cd_cells w ⟨3, a, b, c⟩ 68
    simp only at d0 d1 d2 d3
    have hX := Ext.alloc w (.cells #[.int .i64 3, .int .i64 a, .int .i64 b, .int .i64 c] 68)
    have hO := HX0.out.alloc (.cells #[.int .i64 3, .int .i64 a, .int .i64 b, .int .i64 c] 68)
    replace ca := hX.cell ca
    replace cb := hX.cell cb
    replace cc := hX.cell cc
    have HR2 := Lib.hid (OR.ext HR.out hX)
    have HM2 := Lib.hid (OR.ext HM.out hX)
    replace fa := (OI.at0 HR2.out).2.1 a
    generalize w.alloc (.cells #[.int .i64 3, .int .i64 a, .int .i64 b, .int .i64 c] 68) = W at *
    have HO := Lib.hid hO
    clear hX hO
    go_still_tail 15, (by kernel_rfl)
    still_call (calls_flip (iWordAdd_c _ _ _ wa wb))
    repeat still_step
    try refine wpStill_nil ?_
    go_wp2
    go_end0
    exact ⟨rfl, OR.drew ((OI.at0 HR2.out).2.2 a ((rg r a + rg r b) % 256)), OR.drew (OR.set_other HM2.out (p := ⟨rb, a, none⟩) HO1.out _), (HO.out.set1 _ _).drew⟩
  · -- op 4
    have lb : b ≤ 3 := by have := hb2 (by omega); omega
    have b4 : (b : Int) < 4 := by omega
    have cb := (OI.at0 HR.out).1 b _ (rg_get HRL.out lb)
    clear hb2 hm
    go_enter Try.func119, Try.ntmps119
    go_wp2_with fail
    obtain ⟨d0, d1, d2, d3⟩ := cd_cells w ⟨4, a, b, c⟩ 68
    simp only at d0 d1 d2 d3
    have hX := Ext.alloc w (.cells #[.int .i64 4, .int .i64 a, .int .i64 b, .int .i64 c] 68)
    have hO := HX0.out.alloc (.cells #[.int .i64 4, .int .i64 a, .int .i64 b, .int .i64 c] 68)
    replace ca := hX.cell ca
    replace cb := hX.cell cb
    replace cc := hX.cell cc
    have HR2 := Lib.hid (OR.ext HR.out hX)
    have HM2 := Lib.hid (OR.ext HM.out hX)
    replace fa := (OI.at0 HR2.out).2.1 a
    generalize w.alloc (.cells #[.int .i64 4, .int .i64 a, .int .i64 b, .int .i64 c] 68) = W at *
    have HO := Lib.hid hO
    clear hX hO
    go_still_tail 15, (by kernel_rfl)
    still_call (calls_flip (iWordMul_c _ _ _ wa wb))
    repeat still_step
    try refine wpStill_nil ?_
    go_wp2
    go_end0
    exact ⟨rfl, OR.drew ((OI.at0 HR2.out).2.2 a (rg r a * rg r b % 256)), OR.drew (OR.set_other HM2.out (p := ⟨rb, a, none⟩) HO1.out _), (HO.out.set1 _ _).drew⟩
  · -- op 5
    have lb : b ≤ 3 := by have := hb2 (by omega); omega
    have b4 : (b : Int) < 4 := by omega
    have cb := (OI.at0 HR.out).1 b _ (rg_get HRL.out lb)
    clear hb2 hm
    go_enter Try.func119, Try.ntmps119
    go_wp2_with fail
    obtain ⟨d0, d1, d2, d3⟩ := cd_cells w ⟨5, a, b, c⟩ 68
    simp only at d0 d1 d2 d3
    have hX := Ext.alloc w (.cells #[.int .i64 5, .int .i64 a, .int .i64 b, .int .i64 c] 68)
    have hO := HX0.out.alloc (.cells #[.int .i64 5, .int .i64 a, .int .i64 b, .int .i64 c] 68)
    replace ca := hX.cell ca
    replace cb := hX.cell cb
    replace cc := hX.cell cc
    have HR2 := Lib.hid (OR.ext HR.out hX)
    have HM2 := Lib.hid (OR.ext HM.out hX)
    replace fa := (OI.at0 HR2.out).2.1 a
    generalize w.alloc (.cells #[.int .i64 5, .int .i64 a, .int .i64 b, .int .i64 c] 68) = W at *
    have HO := Lib.hid hO
    clear hX hO
    go_still_tail 9, (by kernel_rfl)
    go_wp2
    go_end0
    exact ⟨rfl, OR.drew ((OI.at0 HR2.out).2.2 a (rg r b)), OR.drew (OR.set_other HM2.out (p := ⟨rb, a, none⟩) HO1.out _), (HO.out.set1 _ _).drew⟩
  · -- op 6
    have lb : b ≤ 3 := by have := hb2 (by omega); omega
    have b4 : (b : Int) < 4 := by omega
    have cb := (OI.at0 HR.out).1 b _ (rg_get HRL.out lb)
    clear hb2 hm
    go_enter Try.func119, Try.ntmps119
    go_wp2_with fail
    obtain ⟨d0, d1, d2, d3⟩ := cd_cells w ⟨6, a, b, c⟩ 68
    simp only at d0 d1 d2 d3
    have hX := Ext.alloc w (.cells #[.int .i64 6, .int .i64 a, .int .i64 b, .int .i64 c] 68)
    have hO := HX0.out.alloc (.cells #[.int .i64 6, .int .i64 a, .int .i64 b, .int .i64 c] 68)
    replace ca := hX.cell ca
    replace cb := hX.cell cb
    replace cc := hX.cell cc
    have HR2 := Lib.hid (OR.ext HR.out hX)
    have HM2 := Lib.hid (OR.ext HM.out hX)
    replace fa := (OI.at0 HR2.out).2.1 a
    generalize w.alloc (.cells #[.int .i64 6, .int .i64 a, .int .i64 b, .int .i64 c] 68) = W at *
    have HO := Lib.hid hO
    clear hX hO
    go_still_tail 15, (by kernel_rfl)
    still_call (calls_flip (iWordLess_c _ _ _ wb wc))
    repeat still_step
    try refine wpStill_nil ?_
    go_wp2
    go_end0
    exact ⟨rfl, OR.drew ((OI.at0 HR2.out).2.2 a (lessI (rg r b) (rg r c))), OR.drew (OR.set_other HM2.out (p := ⟨rb, a, none⟩) HO1.out _), (HO.out.set1 _ _).drew⟩
  · -- op 7
    have lb : b ≤ 3 := by have := hb2 (by omega); omega
    have b4 : (b : Int) < 4 := by omega
    have cb := (OI.at0 HR.out).1 b _ (rg_get HRL.out lb)
    clear hb2 hm
    cases hz : rg r c == 0 with
    | true =>
      have hn : (rg r c != 0) = false := by simp [bne, hz]
      have HZ := Lib.hid hz
      clear hz
      go_enter Try.func119, Try.ntmps119
      go_wp2
      go_end0
      have e : simp1 ⟨7, a, b, c⟩ id r m = (r, m) := by simp [simp1, HZ.out]
      refine ⟨rfl, ?_⟩
      unfold Simp1
      rw [e]
      exact ⟨OR.alloc HR.out _, OR.alloc HM.out _, HX0.out.alloc _⟩
    | false =>
      have hn : (rg r c != 0) = true := by simp [bne, hz]
      have HZ := Lib.hid hz
      clear hz
      go_enter Try.func119, Try.ntmps119
      go_wp2_with fail
      obtain ⟨d0, d1, d2, d3⟩ := cd_cells w ⟨7, a, b, c⟩ 68
      simp only at d0 d1 d2 d3
      have hX := Ext.alloc w (.cells #[.int .i64 7, .int .i64 a, .int .i64 b, .int .i64 c] 68)
      have hO := HX0.out.alloc (.cells #[.int .i64 7, .int .i64 a, .int .i64 b, .int .i64 c] 68)
      replace ca := hX.cell ca
      replace cb := hX.cell cb
      replace cc := hX.cell cc
      have HR2 := Lib.hid (OR.ext HR.out hX)
      have HM2 := Lib.hid (OR.ext HM.out hX)
      replace fa := (OI.at0 HR2.out).2.1 a
      generalize w.alloc (.cells #[.int .i64 7, .int .i64 a, .int .i64 b, .int .i64 c] 68) = W at *
      have HO := Lib.hid hO
      clear hX hO
      go_still_tail 9, (by kernel_rfl)
      go_wp2
      go_end0
      have e : simp1 ⟨7, a, b, c⟩ id r m = (r.set a (rg r b), m) := by simp [simp1, HZ.out]
      refine ⟨rfl, ?_⟩
      unfold Simp1
      rw [e]
      exact ⟨OR.drew ((OI.at0 HR2.out).2.2 a (rg r b)), OR.drew (OR.set_other HM2.out (p := ⟨rb, a, none⟩) HO1.out _), (HO.out.set1 _ _).drew⟩
  · -- op 8
    have lb : b ≤ 3 := by have := hb2 (by omega); omega
    have b4 : (b : Int) < 4 := by omega
    have cb := (OI.at0 HR.out).1 b _ (rg_get HRL.out lb)
    clear hb2
    obtain ⟨k, hk0⟩ := Int.eq_ofNat_of_zero_le wb.1
    have hkm : k % mn < mn := Nat.mod_lt _ (by omega)
    have hmod : Int.tmod (rg r b) (mn : Int) = ((k % mn : Nat) : Int) := by rw [hk0, Int.tmod_eq_emod_of_nonneg (by omega)]; omega
    have hwr : IntKind.i64.wrap (Int.tmod (rg r b) (mn : Int)) = ((k % mn : Nat) : Int) := by rw [hmod]; exact IntWalk.i64_in _ (by omega)
    have hidx : (rg r b % (m.length : Int)).toNat = k % mn := by rw [HMN.out, hk0]; omega
    have HIX := Lib.hid hidx
    have hmg : m[k % mn]? = some (m.getD (k % mn) 0) := by rw [List.getD_eq_getElem?_getD, List.getElem?_eq_getElem (by rw [HMN.out]; exact hkm)]; rfl
    have cm := (OI.at0 HM.out).1 _ _ hmg
    have fm := (OI.at0 HM.out).2.1 (k % mn)
    have hmnz : ¬ mn = 0 := by omega
    have hkI : ((k % mn : Nat) : Int) < (mn : Int) := by omega
    have HMG := Lib.hid hmg
    clear hm hmg hidx hk0
    generalize hkk : k % mn = kk at *
    clear hkk
    go_enter Try.func119, Try.ntmps119
    go_wp2_with fail
    obtain ⟨d0, d1, d2, d3⟩ := cd_cells w ⟨8, a, b, c⟩ 68
    simp only at d0 d1 d2 d3
    have hX := Ext.alloc w (.cells #[.int .i64 8, .int .i64 a, .int .i64 b, .int .i64 c] 68)
    have hO := HX0.out.alloc (.cells #[.int .i64 8, .int .i64 a, .int .i64 b, .int .i64 c] 68)
    replace ca := hX.cell ca
    replace cb := hX.cell cb
    replace cc := hX.cell cc
    have HR2 := Lib.hid (OR.ext HR.out hX)
    have HM2 := Lib.hid (OR.ext HM.out hX)
    replace fa := (OI.at0 HR2.out).2.1 a
    replace cm := hX.cell cm
    replace fm := (OI.at0 HM2.out).2.1 kk
    generalize w.alloc (.cells #[.int .i64 8, .int .i64 a, .int .i64 b, .int .i64 c] 68) = W at *
    have HO := Lib.hid hO
    clear hX hO
    go_still_tail 15, (by kernel_rfl)
    clear hmod hwr hmnz
    go_wp2
    go_end0
    have e : simp1 ⟨8, a, b, c⟩ id r m = (r.set a (m.getD kk 0), m) := by simp only [simp1]; rw [HIX.out]; rfl
    refine ⟨rfl, ?_⟩
    unfold Simp1
    rw [e]
    exact ⟨OR.drew ((OI.at0 HR2.out).2.2 a (m.getD kk 0)), OR.drew (OR.set_other HM2.out (p := ⟨rb, a, none⟩) HO1.out _), (HO.out.set1 _ _).drew⟩
  · -- op 9
    have lb : b ≤ 3 := by have := hb2 (by omega); omega
    have b4 : (b : Int) < 4 := by omega
    have cb := (OI.at0 HR.out).1 b _ (rg_get HRL.out lb)
    clear hb2
    obtain ⟨k, hk0⟩ := Int.eq_ofNat_of_zero_le wb.1
    have hkm : k % mn < mn := Nat.mod_lt _ (by omega)
    have hmod : Int.tmod (rg r b) (mn : Int) = ((k % mn : Nat) : Int) := by rw [hk0, Int.tmod_eq_emod_of_nonneg (by omega)]; omega
    have hwr : IntKind.i64.wrap (Int.tmod (rg r b) (mn : Int)) = ((k % mn : Nat) : Int) := by rw [hmod]; exact IntWalk.i64_in _ (by omega)
    have hidx : (rg r b % (m.length : Int)).toNat = k % mn := by rw [HMN.out, hk0]; omega
    have HIX := Lib.hid hidx
    have hmg : m[k % mn]? = some (m.getD (k % mn) 0) := by rw [List.getD_eq_getElem?_getD, List.getElem?_eq_getElem (by rw [HMN.out]; exact hkm)]; rfl
    have cm := (OI.at0 HM.out).1 _ _ hmg
    have fm := (OI.at0 HM.out).2.1 (k % mn)
    have hmnz : ¬ mn = 0 := by omega
    have hkI : ((k % mn : Nat) : Int) < (mn : Int) := by omega
    have HMG := Lib.hid hmg
    clear hm hmg hidx hk0
    generalize hkk : k % mn = kk at *
    clear hkk
    go_enter Try.func119, Try.ntmps119
    go_wp2_with fail
    obtain ⟨d0, d1, d2, d3⟩ := cd_cells w ⟨9, a, b, c⟩ 68
    simp only at d0 d1 d2 d3
    have hX := Ext.alloc w (.cells #[.int .i64 9, .int .i64 a, .int .i64 b, .int .i64 c] 68)
    have hO := HX0.out.alloc (.cells #[.int .i64 9, .int .i64 a, .int .i64 b, .int .i64 c] 68)
    replace ca := hX.cell ca
    replace cb := hX.cell cb
    replace cc := hX.cell cc
    have HR2 := Lib.hid (OR.ext HR.out hX)
    have HM2 := Lib.hid (OR.ext HM.out hX)
    replace fa := (OI.at0 HR2.out).2.1 a
    replace cm := hX.cell cm
    replace fm := (OI.at0 HM2.out).2.1 kk
    generalize w.alloc (.cells #[.int .i64 9, .int .i64 a, .int .i64 b, .int .i64 c] 68) = W at *
    have HO := Lib.hid hO
    clear hX hO
    go_still_tail 15, (by kernel_rfl)
    clear hmod hwr hmnz
    go_wp2
    go_end0
    have e : simp1 ⟨9, a, b, c⟩ id r m = (r, m.set kk (rg r a)) := by simp only [simp1]; rw [HIX.out]; rfl
    refine ⟨rfl, ?_⟩
    unfold Simp1
    rw [e]
    exact ⟨OR.drew (OR.set_other HR2.out (p := ⟨mb, kk, none⟩) HO2.out _), OR.drew ((OI.at0 HM2.out).2.2 kk (rg r a)), (HO.out.set2 _ _).drew⟩
  · clear hb2 hm
    go_enter Try.func119, Try.ntmps119
    go_wp2
    go_end0
    exact ⟨rfl, OR.alloc HR.out _, OR.alloc HM.out _, HX0.out.alloc _⟩


/-- Where the parts of a crowd lie. -/
structure Gm where
  lb : Nat
  lc : Nat
  R : Nat → Nat
  RC : Nat → Nat
  T : Nat → Option Nat
  TC : Nat → Nat
  mb : Nat
  mc : Nat
def adr (t : Option Nat) : Option Addr := t.map fun b => ⟨b, 0, none⟩
theorem own_adr (t : Option Nat) (n c : Nat) : Value.ownBlock (.slice (adr t) n c) = t := by cases t <;> rfl
def laneCell (z : Gm) (k : Nat) (s : Ln) : Nat → Value
  | 0 => .slice (some ⟨z.R k, 0, none⟩) 4 (z.RC k)
  | 1 => .int .i64 s.pos
  | 2 => .slice (adr (z.T k)) s.turns.length (z.TC k)
  | _ => .bool s.waits
def lanesV (z : Gm) (n : Nat) (f : Nat → Ln) : List Value := (List.range (n * 4)).map fun i => laneCell z (i / 4) (f (i / 4)) (i % 4)
theorem lanesV_len (z : Gm) (n : Nat) (f : Nat → Ln) : (lanesV z n f).length = n * 4 := by simp [lanesV]
theorem lanesV_get (z : Gm) (n : Nat) (f : Nat → Ln) {k j : Nat} (hk : k < n) (hj : j < 4) : (lanesV z n f)[k * 4 + j]? = some (laneCell z k (f k) j) := by
  have h1 : (k * 4 + j) / 4 = k := by omega
  have h2 : (k * 4 + j) % 4 = j := by omega
  have h3 : k * 4 + j < n * 4 := by omega
  simp [lanesV, h1, h2, h3]
/-- One cell of one lane is another. -/
theorem lanesV_set {z z' : Gm} {n : Nat} {f f' : Nat → Ln} {k j : Nat} {v : Value} (hk : k < n) (hj : j < 4) (hv : laneCell z' k (f' k) j = v) (hsame : ∀ i, i < 4 → i ≠ j → laneCell z' k (f' k) i = laneCell z k (f k) i) (hoth : ∀ i, i < n → i ≠ k → ∀ q, q < 4 → laneCell z' i (f' i) q = laneCell z i (f i) q) :
    (lanesV z n f).set (k * 4 + j) v = lanesV z' n f' := by
  apply List.ext_getElem?
  intro i
  by_cases hi : i < n * 4
  · have h1 : i / 4 < n := by omega
    have h2 : i % 4 < 4 := Nat.mod_lt _ (by decide)
    have h3 : i / 4 * 4 + i % 4 = i := by omega
    have g1 := lanesV_get z n f h1 h2
    have g2 := lanesV_get z' n f' h1 h2
    rw [h3] at g1 g2
    rw [g2, List.getElem?_set]
    by_cases e : k * 4 + j = i
    · rw [if_pos e, if_pos (by rw [lanesV_len]; omega)]
      have e1 : i / 4 = k := by omega
      have e2 : i % 4 = j := by omega
      rw [e1, e2, hv]
    · rw [if_neg e, g1]
      by_cases e1 : i / 4 = k
      · rw [e1, hsame _ h2 (by intro e2; omega)]
      · rw [hoth _ h1 e1 _ h2]
  · rw [List.getElem?_eq_none (by rw [List.length_set, lanesV_len]; omega), List.getElem?_eq_none (by rw [lanesV_len]; omega)]
theorem lanesV_congr {z z' : Gm} {n : Nat} {f f' : Nat → Ln} (h : ∀ i, i < n → ∀ q, q < 4 → laneCell z' i (f' i) q = laneCell z i (f i) q) : lanesV z' n f' = lanesV z n f := by
  apply List.ext_getElem?
  intro i
  by_cases hi : i < n * 4
  · have h1 : i / 4 < n := by omega
    have h2 : i % 4 < 4 := Nat.mod_lt _ (by decide)
    have h3 : i / 4 * 4 + i % 4 = i := by omega
    have g1 := lanesV_get z n f h1 h2
    have g2 := lanesV_get z' n f' h1 h2
    rw [h3] at g1 g2
    rw [g1, g2, h _ h1 _ h2]
  · rw [List.getElem?_eq_none (by rw [lanesV_len]; omega), List.getElem?_eq_none (by rw [lanesV_len]; omega)]
theorem lanesV_snoc (z : Gm) (n : Nat) (f : Nat → Ln) : lanesV z (n + 1) f = lanesV z n f ++ [laneCell z n (f n) 0, laneCell z n (f n) 1, laneCell z n (f n) 2, laneCell z n (f n) 3] := by
  apply List.ext_getElem?
  intro i
  by_cases hi : i < n * 4
  · rw [List.getElem?_append_left (by rw [lanesV_len]; exact hi)]
    have h1 : i / 4 < n := by omega
    have h2 : i % 4 < 4 := Nat.mod_lt _ (by decide)
    have h3 : i / 4 * 4 + i % 4 = i := by omega
    have g1 := lanesV_get z n f h1 h2
    have g2 := lanesV_get z (n + 1) f (show i / 4 < n + 1 by omega) h2
    rw [h3] at g1 g2
    rw [g1, g2]
  · rw [List.getElem?_append_right (by rw [lanesV_len]; omega), lanesV_len]
    by_cases h4 : i < (n + 1) * 4
    · have g2 := lanesV_get z (n + 1) f (show n < n + 1 by omega) (show i - n * 4 < 4 by omega)
      rw [show n * 4 + (i - n * 4) = i by omega] at g2
      rw [g2]
      have : i - n * 4 = 0 ∨ i - n * 4 = 1 ∨ i - n * 4 = 2 ∨ i - n * 4 = 3 := by omega
      rcases this with e | e | e | e <;> rw [e] <;> rfl
    · rw [List.getElem?_eq_none (by rw [lanesV_len]; omega), List.getElem?_eq_none (by simp; omega)]

/-- A crowd of n lanes in memory. -/
structure CM (O : Nat → Prop) (w : World) (B n : Nat) (z : Gm) (c : Cw) : Prop where
  row : OR w B 64 4 (some ⟨z.lb, 0, none⟩) n z.lc (lanesV z n c.lane)
  regs : ∀ k, k < n → OI w B (some ⟨z.R k, 0, none⟩) 4 (z.RC k) (c.lane k).regs
  turns : ∀ k, k < n → OI w B (adr (z.T k)) (c.lane k).turns.length (z.TC k) (c.lane k).turns
  mem : OI w B (some ⟨z.mb, 0, none⟩) c.mem.length z.mc c.mem
  rm : ∀ k, k < n → z.R k ≠ z.mb
  rr : ∀ j k, j < n → k < n → z.R j = z.R k → j = k
  tm : ∀ k, k < n → z.T k ≠ some z.mb
  tr : ∀ j k, j < n → k < n → z.T j ≠ some (z.R k)
  tt : ∀ j k q, j < n → k < n → z.T j = some q → z.T k = some q → j = k
  olb : O z.lb
  omb : O z.mb
  oR : ∀ k, k < n → O (z.R k)
  oT : ∀ k q, k < n → z.T k = some q → O q
  of : ∀ q, w.heap.size ≤ q → O q

section
variable {O : Nat → Prop} {w w' : World} {B n : Nat} {z : Gm} {c : Cw}
theorem CM.ext (h : CM O w B n z c) (hx : Ext w w') : CM O w' B n z c :=
  ⟨h.row.ext hx, fun k hk => OR.ext (h.regs k hk) hx, fun k hk => OR.ext (h.turns k hk) hx, OR.ext h.mem hx, h.rm, h.rr, h.tm, h.tr, h.tt, h.olb, h.omb, h.oR, h.oT, fun q hq => h.of q (Nat.le_trans hx.size hq)⟩
theorem CM.lt (h : CM O w B n z c) : B ≤ z.lb ∧ z.lb < w.heap.size := OR.base_le h.row
theorem CM.heap (h : CM O w B n z c) : ∃ cur, w.heap[z.lb]? = some (.cells cur 64 (0, 0)) := OR.heap_ h.row
theorem CM.cells (h : CM O w B n z c) {k : Nat} (hk : k < n) : w.cell? ⟨z.lb, k * 4, none⟩ = some (.slice (some ⟨z.R k, 0, none⟩) 4 (z.RC k)) ∧ w.cell? ⟨z.lb, k * 4 + 1, none⟩ = some (.int .i64 (c.lane k).pos) ∧
    w.cell? ⟨z.lb, k * 4 + 2, none⟩ = some (.slice (adr (z.T k)) (c.lane k).turns.length (z.TC k)) ∧ w.cell? ⟨z.lb, k * 4 + 3, none⟩ = some (.bool (c.lane k).waits) := by
  have h0 := (OR.at0 h.row).1
  exact ⟨h0 _ _ (lanesV_get z n c.lane hk (by decide : 0 < 4)), h0 _ _ (lanesV_get z n c.lane hk (by decide : 1 < 4)), h0 _ _ (lanesV_get z n c.lane hk (by decide : 2 < 4)), h0 _ _ (lanesV_get z n c.lane hk (by decide : 3 < 4))⟩
theorem CM.free (h : CM O w B n z c) (j : Nat) : w.frozen? ⟨z.lb, j, none⟩ = false := by
  obtain ⟨cur, hc⟩ := h.heap
  exact free_of_heap hc j
theorem CM.reg (h : CM O w B n z c) {k : Nat} (hk : k < n) {a : Nat} (ha : a ≤ 3) (h4 : (c.lane k).regs.length = 4) : w.cell? ⟨z.R k, a, none⟩ = some (.int .i64 (rg (c.lane k).regs a)) := (OI.at0 (h.regs k hk)).1 a _ (rg_get h4 ha)

/-- Nothing below B is turned, and no block but that of the lanes and those of numbers. -/
structure StC (O : Nat → Prop) (B : Nat) (w w' : World) : Prop where
  bel : Below B w w'
  byt : ∀ (k : Nat) (cs : Array Value) (t : TypeId), t ≠ 3 → t ≠ 64 → w.heap[k]? = some (.cells cs t (0, 0)) → w'.heap[k]? = some (.cells cs t (0, 0))
  off : ∀ q, q < w.heap.size → ¬ O q → w'.heap[q]? = w.heap[q]?
theorem StC.refl (B : Nat) (w : World) : StC O B w w := ⟨Below.refl _ _, fun _ _ _ _ _ h => h, fun _ _ _ => rfl⟩
theorem StC.trans {a b d : World} (h : StC O B a b) (k : StC O B b d) : StC O B a d := ⟨h.bel.trans k.bel, fun i cs t h1 h2 hi => k.byt i cs t h1 h2 (h.byt i cs t h1 h2 hi), fun q hq hn => (k.off q (Nat.lt_of_lt_of_le hq h.bel.size) hn).trans (h.off q hq hn)⟩
theorem StC.of_ext (h : Ext w w') (hB : B ≤ w.heap.size) : StC O B w w' := ⟨h.below.mono hB, fun _ _ _ _ _ hk => h.heap_ hk, fun q hq _ => h.block q hq⟩
theorem StC.size (h : StC O B w w') : w.heap.size ≤ w'.heap.size := h.bel.size

/-- The crowd with another bound of what may be turned. -/
theorem CM.reO {O' : Nat → Prop} (h : CM O w B n z c) (h1 : O' z.lb) (h2 : O' z.mb) (h3 : ∀ k, k < n → O' (z.R k)) (h4 : ∀ k q, k < n → z.T k = some q → O' q) (h5 : ∀ q, w.heap.size ≤ q → O' q) : CM O' w B n z c :=
  ⟨h.row, h.regs, h.turns, h.mem, h.rm, h.rr, h.tm, h.tr, h.tt, h1, h2, h3, h4, h5⟩
/-- What lies above the crowd may be left out. -/
theorem CM.above (h : CM O w B n z c) {w' : World} (hx : Ext w w') {g : Nat} (hg : w.heap.size ≤ g) (hg2 : g < w'.heap.size) : CM (fun q => O q ∧ q ≠ g) w' B n z c :=
  (h.ext hx).reO ⟨h.olb, fun e => by have := h.lt.2; omega⟩ ⟨h.omb, fun e => by have := (OR.base_le h.mem).2; omega⟩ (fun k hk => ⟨h.oR k hk, fun e => by have := (OR.base_le (h.regs k hk)).2; omega⟩)
    (fun k q hk hq => ⟨h.oT k q hk hq, fun e => by have := (OR.block (h.turns k hk) q (by rw [own_adr]; exact hq)).2; omega⟩) (fun q hq => ⟨h.of q (Nat.le_trans hx.size hq), fun e => by omega⟩)
theorem CM.more {g : Nat} (h : CM (fun q => O q ∧ q ≠ g) w B n z c) (hO : O g) : CM O w B n z c :=
  h.reO h.olb.1 h.omb.1 (fun k hk => (h.oR k hk).1) (fun k q hk hq => (h.oT k q hk hq).1) (fun q hq => (h.of q hq).1)
theorem StC.more {O' : Nat → Prop} (h : StC O' B w w') (hO : ∀ q, O' q → O q) : StC O B w w' := ⟨h.bel, h.byt, fun q hq hn => h.off q hq (fun h' => hn (hO q h'))⟩

/-- A store of the place or of the waiting of a lane. -/
theorem CM.put (h : CM O w B n z c) (hB : B ≤ w.heap.size) {k j : Nat} {v : Value} {c' : Cw} (hk : k < n) (hj : j < 4) (hv : laneCell z k (c'.lane k) j = v) (hsame : ∀ i, i < 4 → i ≠ j → laneCell z k (c'.lane k) i = laneCell z k (c.lane k) i)
    (hoth : ∀ i, i < n → i ≠ k → c'.lane i = c.lane i) (hr : (c'.lane k).regs = (c.lane k).regs) (ht : (c'.lane k).turns = (c.lane k).turns) (hm : c'.mem = c.mem) :
    CM O (w.setCell ⟨z.lb, k * 4 + j, none⟩ v) B n z c' ∧ StC O B w (w.setCell ⟨z.lb, k * 4 + j, none⟩ v) := by
  obtain ⟨cur, hblk⟩ := h.heap
  have oi : ∀ {A : Option Addr} {m cc : Nat} {xs : List Int}, OI w B A m cc xs → OI (w.setCell ⟨z.lb, k * 4 + j, none⟩ v) B A m cc xs := fun ho => OR.set_other ho (p := ⟨z.lb, k * 4 + j, none⟩) (own_ne ho hblk (by decide)) _
  have hl : ∀ i, i < n → (c'.lane i).regs = (c.lane i).regs ∧ (c'.lane i).turns = (c.lane i).turns := fun i hi => by
    by_cases e : i = k
    · subst e; exact ⟨hr, ht⟩
    · rw [hoth i hi e]; exact ⟨rfl, rfl⟩
  refine ⟨⟨?_, fun i hi => ?_, fun i hi => ?_, ?_, h.rm, h.rr, h.tm, h.tr, h.tt, h.olb, h.omb, h.oR, h.oT, fun q hq => h.of q (by rw [size_set] at hq; exact hq)⟩, ⟨(Below.refl _ _).setCell h.lt.1 _, fun i cs t h1 h2 hi => (heap_set_other (type_ne hi hblk h2) _ _).trans hi, fun q _ hn => heap_set_other (fun e => hn (by rw [e]; exact h.olb)) _ _⟩⟩
  · have := (OR.at0 h.row).2.2 (k * 4 + j) v
    rw [lanesV_set (z' := z) (f' := c'.lane) hk hj hv hsame (fun i hi e q _ => by rw [hoth i hi e])] at this
    exact this
  · rw [(hl i hi).1]; exact oi (h.regs i hi)
  · rw [(hl i hi).2]; exact oi (h.turns i hi)
  · rw [hm]; exact oi h.mem

/-- Registers of a lane and the memory are others. -/
theorem CM.simp (h : CM O w B n z c) (hB : B ≤ w.heap.size) {k mn : Nat} (hk : k < n) (hmn : mn = c.mem.length) {x : Cd} {c' : Cw}
    (hs : Simp1 w B (z.R k) (z.RC k) z.mb mn z.mc x k (c.lane k).regs c.mem w') (hr : (c'.lane k).regs = (simp1 x k (c.lane k).regs c.mem).1) (hmem : c'.mem = (simp1 x k (c.lane k).regs c.mem).2)
    (hk2 : (c'.lane k).pos = (c.lane k).pos ∧ (c'.lane k).turns = (c.lane k).turns ∧ (c'.lane k).waits = (c.lane k).waits) (hoth : ∀ i, i < n → i ≠ k → c'.lane i = c.lane i) : CM O w' B n z c' ∧ StC O B w w' := by
  subst hmn
  obtain ⟨h1, h2, h3⟩ := hs
  obtain ⟨cr, hcr⟩ := OR.heap_ (h.regs k hk)
  obtain ⟨cm, hcm⟩ := OR.heap_ h.mem
  have hl := simp1_len x k (c.lane k).regs c.mem
  have hb : Below B w w' := h3.below (OR.block (h.regs k hk) _ rfl).1 (OR.block h.mem _ rfl).1 hB
  have hbt : ∀ (i : Nat) (cs : Array Value) (t : TypeId), t ≠ 3 → w.heap[i]? = some (.cells cs t (0, 0)) → w'.heap[i]? = some (.cells cs t (0, 0)) := fun i cs t ht hi => (h3.block i (lt_of_block hi) (type_ne hi hcr ht) (type_ne hi hcm ht)).trans hi
  refine ⟨⟨?_, fun i hi => ?_, fun i hi => ?_, ?_, h.rm, h.rr, h.tm, h.tr, h.tt, h.olb, h.omb, h.oR, h.oT, fun q hq => h.of q (Nat.le_trans hb.size hq)⟩, ⟨hb, fun i cs t h1 _ hi => hbt i cs t h1 hi, fun q hq hn => h3.block q hq (fun e => hn (by rw [e]; exact h.oR k hk)) (fun e => hn (by rw [e]; exact h.omb))⟩⟩
  · have e : lanesV z n c'.lane = lanesV z n c.lane := lanesV_congr fun i hi q _ => by
      by_cases e : i = k
      · subst e
        have : q = 0 ∨ q = 1 ∨ q = 2 ∨ 3 ≤ q := by omega
        rcases this with rfl | rfl | rfl | h3
        · rfl
        · simp only [laneCell, hk2.1]
        · simp only [laneCell, hk2.2.1]
        · match q, h3 with
          | q + 3, _ => simp only [laneCell, hk2.2.2]
      · rw [hoth i hi e]
    rw [e]
    exact h.row.byType fun b cs hi => hbt b cs _ (by decide) hi
  · by_cases e : i = k
    · subst e
      rw [hr]; exact h1
    · rw [hoth i hi e]
      exact OR.off (h.regs i hi) h3 (fun e2 => e (h.rr i k hi hk (by injection e2))) (fun e2 => h.rm i hi (by injection e2))
  · have ht : (c'.lane i).turns = (c.lane i).turns := by
      by_cases e : i = k
      · subst e; exact hk2.2.1
      · rw [hoth i hi e]
    rw [ht]
    refine OR.off (h.turns i hi) h3 (fun e2 => ?_) (fun e2 => ?_)
    · rw [own_adr] at e2; exact h.tr i k hi hk e2
    · rw [own_adr] at e2; exact h.tm i hi e2
  · rw [hmem]
    have : (simp1 x k (c.lane k).regs c.mem).2.length = c.mem.length := hl.2
    rw [this]
    exact h2

/-- A turn more, behind an append. -/
theorem CM.push {wb w2 : World} (h : CM O w B n z c) (hX : Ext w wb) (hB : B ≤ w.heap.size) {k g cap : Nat} {v : Int} {c' : Cw} (hk : k < n) (hg : wb.grownBy w2 (z.T k))
    (ho : OI w2 B (some ⟨g, 0, none⟩) ((c.lane k).turns.length + 1) cap ((c.lane k).turns ++ [v])) (hat : z.T k = some g ∨ wb.heap.size ≤ g)
    (ht : (c'.lane k).turns = (c.lane k).turns ++ [v]) (hk2 : (c'.lane k).regs = (c.lane k).regs ∧ (c'.lane k).pos = (c.lane k).pos ∧ (c'.lane k).waits = (c.lane k).waits) (hoth : ∀ i, i < n → i ≠ k → c'.lane i = c.lane i) (hm : c'.mem = c.mem) :
    CM O (w2.setCell ⟨z.lb, k * 4 + 2, none⟩ (.slice (some ⟨g, 0, none⟩) ((c.lane k).turns.length + 1) cap)) B n { z with T := fun j => if j = k then some g else z.T j, TC := fun j => if j = k then cap else z.TC j } c' ∧
      StC O B w (w2.setCell ⟨z.lb, k * 4 + 2, none⟩ (.slice (some ⟨g, 0, none⟩) ((c.lane k).turns.length + 1) cap)) := by
  have hb := h.ext hX
  obtain ⟨cur, hblk⟩ := hb.heap
  have hTk : ∀ q, z.T k = some q → B ≤ q ∧ q < wb.heap.size := fun q hq => OR.block (hb.turns k hk) q (by rw [own_adr]; exact hq)
  have kp : ∀ i, i < wb.heap.size → z.T k ≠ some i → w2.heap[i]? = wb.heap[i]? := fun i hi hne => hg.block i hi (fun e => hne e.symm)
  have hblk2 : w2.heap[z.lb]? = some (.cells cur 64 (0, 0)) := (kp _ hb.lt.2 (fun e => by
    have := own_ne (hb.turns k hk) hblk (by decide)
    rw [own_adr] at this
    exact this e)).trans hblk
  have oi : ∀ {A : Option Addr} {m cc : Nat} {xs : List Int}, OI wb B A m cc xs → (∀ q, Value.ownBlock (.slice A m cc) = some q → z.T k ≠ some q) → OI (w2.setCell ⟨z.lb, k * 4 + 2, none⟩ (.slice (some ⟨g, 0, none⟩) ((c.lane k).turns.length + 1) cap)) B A m cc xs := fun {A m cc xs} hx hne => by
    have h1 : OI w2 B A m cc xs := by
      refine OR.kept hx hg ?_
      cases hob : Value.ownBlock (.slice A m cc) with
      | none => exact .inl rfl
      | some q => exact .inr (fun e => hne q hob e.symm)
    exact OR.set_other h1 (p := ⟨z.lb, k * 4 + 2, none⟩) (own_ne h1 hblk2 (by decide)) _
  have hRlt : ∀ i, i < n → z.R i < wb.heap.size := fun i hi => (OR.base_le (hb.regs i hi)).2
  have hmlt : z.mb < wb.heap.size := (OR.base_le hb.mem).2
  have hTlt : ∀ i q, i < n → z.T i = some q → q < wb.heap.size := fun i q hi hq => (OR.block (hb.turns i hi) q (by rw [own_adr]; exact hq)).2
  have hrow2 : OR w2 B 64 4 (some ⟨z.lb, 0, none⟩) n z.lc (lanesV z n c.lane) := OR.kept hb.row hg (.inr fun e => by
    have := own_ne (hb.turns k hk) hblk (by decide)
    rw [own_adr] at this
    exact this e.symm)
  have hlst : Below B wb w2 := ⟨hg.os, hg.tape, hg.output, hg.size, fun i hi => kp i (by have := hX.size; omega) (fun e => by have := (hTk i e).1; omega)⟩
  have hoT : ∀ i q, i < n → (if i = k then some g else z.T i) = some q → O q := fun i q hi hq => by
    by_cases e : i = k
    · rw [if_pos e] at hq
      have hq := Option.some.inj hq
      subst hq
      rcases hat with h1 | h1
      · exact h.oT k g hk h1
      · exact h.of g (Nat.le_trans hX.size h1)
    · rw [if_neg e] at hq
      exact h.oT i q hi hq
  refine ⟨⟨?_, fun i hi => ?_, fun i hi => ?_, ?_, h.rm, h.rr, fun i hi => ?_, fun i j hi hj => ?_, fun i j q hi hj => ?_, h.olb, h.omb, h.oR, hoT, fun q hq => h.of q (by rw [size_set] at hq; exact Nat.le_trans hX.size (Nat.le_trans hg.size hq))⟩, ⟨(((hX.below).mono hB).trans hlst).setCell h.lt.1 _, fun i cs t h1 h2 hi => ?_, fun q hq hn => (heap_set_other (fun e => hn (by rw [e]; exact h.olb)) _ _).trans ((kp q (Nat.lt_of_lt_of_le hq hX.size) (fun e => hn (h.oT k q hk e))).trans (hX.block q hq))⟩⟩
  · have := (OR.at0 hrow2).2.2 (k * 4 + 2) (.slice (some ⟨g, 0, none⟩) ((c.lane k).turns.length + 1) cap)
    rw [lanesV_set (z' := { z with T := fun j => if j = k then some g else z.T j, TC := fun j => if j = k then cap else z.TC j }) (f' := c'.lane) hk (by decide) ?_ (fun i hi hne => ?_) (fun i hi hne q _ => ?_)] at this
    · exact this
    · simp only [laneCell, if_true, ht]
      simp [adr]
    · have : i = 0 ∨ i = 1 ∨ i = 3 := by omega
      rcases this with rfl | rfl | rfl
      · rfl
      · simp only [laneCell, hk2.2.1]
      · simp only [laneCell, hk2.2.2]
    · rw [hoth i hi hne]
      have : q = 0 ∨ q = 1 ∨ q = 2 ∨ 3 ≤ q := by omega
      rcases this with rfl | rfl | rfl | h3
      · rfl
      · rfl
      · simp only [laneCell, hne, if_false]
      · match q, h3 with
        | q + 3, _ => rfl
  · have e : (c'.lane i).regs = (c.lane i).regs := by
      by_cases e : i = k
      · subst e; exact hk2.1
      · rw [hoth i hi e]
    rw [e]
    refine oi (hb.regs i hi) (fun q hq => ?_)
    have : q = z.R i := by injection hq with hq; exact hq.symm
    subst this
    exact h.tr k i hk hi
  · by_cases e : i = k
    · subst e
      simp only [if_true]
      rw [ht]
      have hl : ((c.lane i).turns ++ [v]).length = (c.lane i).turns.length + 1 := by simp
      rw [hl]
      exact OR.set_other ho (p := ⟨z.lb, i * 4 + 2, none⟩) (own_ne ho hblk2 (by decide)) _
    · simp only [e, if_false]
      rw [hoth i hi e]
      refine oi (hb.turns i hi) (fun q hq hq2 => ?_)
      rw [own_adr] at hq
      exact e (h.tt i k q hi hk hq hq2)
  · rw [hm]
    refine oi hb.mem (fun q hq => ?_)
    have : q = z.mb := by injection hq with hq; exact hq.symm
    subst this
    exact h.tm k hk
  · by_cases e : i = k
    · subst e
      simp only [if_true]
      intro e2
      have e3 := Option.some.inj e2
      rcases hat with h1 | h1
      · exact h.tm i hk (by rw [h1, e3])
      · omega
    · simp only [e, if_false]; exact h.tm i hi
  · by_cases e : i = k
    · subst e
      simp only [if_true]
      intro e2
      have e3 := Option.some.inj e2
      rcases hat with h1 | h1
      · exact h.tr i j hk hj (by rw [h1, e3])
      · have := hRlt j hj; omega
    · simp only [e, if_false]; exact h.tr i j hi hj
  · by_cases e1 : i = k <;> by_cases e2 : j = k <;> simp only [e1, e2, if_true, if_false]
    · intro _ _; trivial
    · intro h3 h4
      have h3 := Option.some.inj h3
      subst h3
      rcases hat with h1 | h1
      · exact absurd (h.tt k j _ hk hj h1 h4) (fun e => e2 e.symm)
      · have := hTlt j _ hj h4; omega
    · intro h3 h4
      have h4 := Option.some.inj h4
      subst h4
      rcases hat with h1 | h1
      · exact absurd (h.tt i k _ hi hk h3 h1) e1
      · have := hTlt i _ hi h3; omega
    · exact h.tt i j q hi hj
  · have hib := hX.heap_ hi
    have h3 : w2.heap[i]? = some (.cells cs t (0, 0)) := (kp i (lt_of_block hib) (fun e => by
      have := own_ne (hb.turns k hk) hib (Ne.symm h1)
      rw [own_adr] at this
      exact this e)).trans hib
    rw [heap_set_other (type_ne h3 hblk2 h2)]
    exact h3

/-- The last turn is another. -/
theorem CM.dec (h : CM O w B n z c) {k b j : Nat} {v : Int} {c' : Cw} (hk : k < n) (hT : z.T k = some b) (hj : j < (c.lane k).turns.length)
    (ht : (c'.lane k).turns = (c.lane k).turns.set j v) (hk2 : (c'.lane k).regs = (c.lane k).regs ∧ (c'.lane k).pos = (c.lane k).pos ∧ (c'.lane k).waits = (c.lane k).waits) (hoth : ∀ i, i < n → i ≠ k → c'.lane i = c.lane i) (hm : c'.mem = c.mem) :
    CM O (w.setCell ⟨b, j, none⟩ (.int .i64 v)) B n z c' ∧ StC O B w (w.setCell ⟨b, j, none⟩ (.int .i64 v)) := by
  have hTk := h.turns k hk
  rw [hT] at hTk
  have hTk' : OI w B (some ⟨b, 0, none⟩) (c.lane k).turns.length (z.TC k) (c.lane k).turns := hTk
  obtain ⟨cb, hcb⟩ := OR.heap_ hTk'
  have hbB := (OR.base_le hTk').1
  have oi : ∀ {A : Option Addr} {m cc : Nat} {xs : List Int}, OI w B A m cc xs → Value.ownBlock (.slice A m cc) ≠ some b → OI (w.setCell ⟨b, j, none⟩ (.int .i64 v)) B A m cc xs := fun ho hne => OR.set_other ho (p := ⟨b, j, none⟩) hne _
  refine ⟨⟨?_, fun i hi => ?_, fun i hi => ?_, ?_, h.rm, h.rr, h.tm, h.tr, h.tt, h.olb, h.omb, h.oR, h.oT, fun q hq => h.of q (by rw [size_set] at hq; exact hq)⟩, ⟨(Below.refl _ _).setCell hbB _, fun i cs t h1 _ hi => (heap_set_other (type_ne hi hcb h1) _ _).trans hi, fun q _ hn => heap_set_other (fun e => hn (by rw [e]; exact h.oT k b hk hT)) _ _⟩⟩
  · have e : lanesV z n c'.lane = lanesV z n c.lane := lanesV_congr fun i hi q _ => by
      by_cases e : i = k
      · subst e
        have : q = 0 ∨ q = 1 ∨ q = 2 ∨ 3 ≤ q := by omega
        rcases this with rfl | rfl | rfl | h3
        · rfl
        · simp only [laneCell, hk2.2.1]
        · simp only [laneCell, ht, List.length_set]
        · match q, h3 with
          | q + 3, _ => simp only [laneCell, hk2.2.2]
      · rw [hoth i hi e]
    rw [e]
    exact OR.set_other h.row (p := ⟨b, j, none⟩) (own_ne h.row hcb (by decide)) _
  · have e : (c'.lane i).regs = (c.lane i).regs := by
      by_cases e : i = k
      · subst e; exact hk2.1
      · rw [hoth i hi e]
    rw [e]
    exact oi (h.regs i hi) (fun e => h.tr k i hk hi (by rw [hT]; injection e with e; exact congrArg some e.symm))
  · by_cases e : i = k
    · subst e
      rw [ht, hT, List.length_set]
      have := (OR.at0 hTk').2.2 j (.int .i64 v)
      unfold OI
      rw [List.map_set]
      exact this
    · rw [hoth i hi e]
      refine oi (h.turns i hi) (fun e2 => ?_)
      rw [own_adr] at e2
      exact e (h.tt i k b hi hk e2 hT)
  · rw [hm]
    exact oi h.mem (fun e => h.tm k hk (by rw [hT]; injection e with e; exact congrArg some e.symm))

/-- The last turn is gone. -/
theorem CM.pop (h : CM O w B n z c) {k : Nat} {c' : Cw} (hk : k < n)
    (ht : (c'.lane k).turns = (c.lane k).turns.dropLast) (hk2 : (c'.lane k).regs = (c.lane k).regs ∧ (c'.lane k).pos = (c.lane k).pos ∧ (c'.lane k).waits = (c.lane k).waits) (hoth : ∀ i, i < n → i ≠ k → c'.lane i = c.lane i) (hm : c'.mem = c.mem) :
    CM O (w.setCell ⟨z.lb, k * 4 + 2, none⟩ (.slice (adr (z.T k)) ((c.lane k).turns.length - 1) (z.TC k))) B n z c' ∧ StC O B w (w.setCell ⟨z.lb, k * 4 + 2, none⟩ (.slice (adr (z.T k)) ((c.lane k).turns.length - 1) (z.TC k))) := by
  obtain ⟨cur, hblk⟩ := h.heap
  have oi : ∀ {A : Option Addr} {m cc : Nat} {xs : List Int}, OI w B A m cc xs → OI (w.setCell ⟨z.lb, k * 4 + 2, none⟩ (.slice (adr (z.T k)) ((c.lane k).turns.length - 1) (z.TC k))) B A m cc xs := fun ho => OR.set_other ho (p := ⟨z.lb, k * 4 + 2, none⟩) (own_ne ho hblk (by decide)) _
  refine ⟨⟨?_, fun i hi => ?_, fun i hi => ?_, ?_, h.rm, h.rr, h.tm, h.tr, h.tt, h.olb, h.omb, h.oR, h.oT, fun q hq => h.of q (by rw [size_set] at hq; exact hq)⟩, ⟨(Below.refl _ _).setCell h.lt.1 _, fun i cs t h1 h2 hi => (heap_set_other (type_ne hi hblk h2) _ _).trans hi, fun q _ hn => heap_set_other (fun e => hn (by rw [e]; exact h.olb)) _ _⟩⟩
  · have := (OR.at0 h.row).2.2 (k * 4 + 2) (.slice (adr (z.T k)) ((c.lane k).turns.length - 1) (z.TC k))
    rw [lanesV_set (z' := z) (f' := c'.lane) hk (by decide) (by simp only [laneCell, ht, List.length_dropLast]) (fun i hi hne => ?_) (fun i hi e q _ => by rw [hoth i hi e])] at this
    · exact this
    · have : i = 0 ∨ i = 1 ∨ i = 3 := by omega
      rcases this with rfl | rfl | rfl
      · rfl
      · simp only [laneCell, hk2.2.1]
      · simp only [laneCell, hk2.2.2]
  · have e : (c'.lane i).regs = (c.lane i).regs := by
      by_cases e : i = k
      · subst e; exact hk2.1
      · rw [hoth i hi e]
    rw [e]; exact oi (h.regs i hi)
  · by_cases e : i = k
    · subst e
      rw [ht, List.length_dropLast]
      have h1 := OR.take_ (h.turns i hi) (m := (c.lane i).turns.length - 1) (by omega)
      have e2 : ((c.lane i).turns.map (Value.int .i64)).take (((c.lane i).turns.length - 1) * 1) = (c.lane i).turns.dropLast.map (Value.int .i64) := by
        rw [Nat.mul_one, List.dropLast_eq_take, List.map_take]
      rw [e2] at h1
      exact oi h1
    · rw [hoth i hi e]; exact oi (h.turns i hi)
  · rw [hm]; exact oi h.mem
end

end Go.Proofs.Ytelbfeidpcojmaa
