/- Part 6 of what the claim needs. -/
import Derived.Test.YtelbfeidpcojmaaGreatLau2
import Derived.Test.YtelbfeidpcojmaaGreatLau5
import Derived.Deep.RegionHeld3
import Derived.StillTailTactics
import Derived.IntWalk
namespace Go.Proofs.YtelbfeidpcojmaaGreat
open Go.RowKit
set_option linter.unusedVariables false
set_option linter.unusedSimpArgs false

set_option maxRecDepth 100000 in
set_option maxHeartbeats 2000000 in
theorem sCodeValid_c (x : Cd) (w : World) :
    Calls Tryz.prog 67 #[x.val] w fun e w' => e = .returned (.bool (cvOk x)) ∧ Below w.heap.size w w' := by
  obtain ⟨o, a, b, c⟩ := x
  unfold Cd.val
  go_enter Tryz.func67, Tryz.ntmps67
  go_wp2_with (first | (go_at_call 33; refine (l1In_c _ _ _ _).mono ?_; rintro e w' ⟨rfl, rfl⟩) | (go_at_call 68; refine (l2Word_c _ _).mono ?_; rintro e w' ⟨rfl, rfl⟩))
  all_goals go_ret
  all_goals refine ⟨retb ?_, (Below.refl _ _).alloc (Nat.le_refl _) _⟩
  all_goals (unfold cvOk; simp_all; done)

theorem pvRun_take {l : List Cd} {k : Nat} {x : Cd} {st st' : List Int} (hx : l[k]? = some x) (h : pvRun [] (l.take k) = some st) (hs : pvStep st x = some st') : pvRun [] (l.take (k + 1)) = some st' := by
  obtain ⟨hk, rfl⟩ := List.getElem?_eq_some_iff.1 hx
  rw [List.take_succ_eq_append_getElem hk, pvRun_append, h]
  simp [pvRun, hs]
theorem pv_fail {l : List Cd} {k : Nat} {x : Cd} {st : List Int} (hx : l[k]? = some x) (h : pvRun [] (l.take k) = some st) (hs : pvStep st x = none) : pv l = false := by
  obtain ⟨hk, rfl⟩ := List.getElem?_eq_some_iff.1 hx
  have e : pvRun [] l = none := by
    conv => lhs; rw [← List.take_append_drop k l]
    rw [pvRun_append, h, List.drop_eq_getElem_cons hk]
    simp [pvRun, hs]
  simp [pv, e]

theorem step_bad {st : List Int} {x : Cd} (h : cvOk x = false) : pvStep st x = none := by simp [pvStep, h]
theorem step_open {st : List Int} {x : Cd} (h : cvOk x = true) (ho : x.op = 11 ∨ x.op = 13) : pvStep st x = if st.length < 3 then some (x.op :: st) else none := by
  rcases ho with ho | ho <;> simp [pvStep, h, ho]
theorem step_else {m : Int} {t : List Int} {x : Cd} (h : cvOk x = true) (ho : x.op = 12) : pvStep (m :: t) x = if m = 11 then some (12 :: t) else none := by
  simp [pvStep, h, ho]
theorem step_else0 {x : Cd} (h : cvOk x = true) (ho : x.op = 12) : pvStep [] x = none := by simp [pvStep, h, ho]
theorem step_end {m : Int} {t : List Int} {x : Cd} (h : cvOk x = true) (ho : x.op = 14) : pvStep (m :: t) x = some t := by simp [pvStep, h, ho]
theorem step_end0 {x : Cd} (h : cvOk x = true) (ho : x.op = 14) : pvStep [] x = none := by simp [pvStep, h, ho]
theorem step_same {st : List Int} {x : Cd} (h : cvOk x = true) (h1 : x.op ≠ 11) (h2 : x.op ≠ 13) (h3 : x.op ≠ 12) (h4 : x.op ≠ 14) : pvStep st x = some st := by simp [pvStep, h, h1, h2, h3, h4]

/-- The relation of the loop. -/
def SVRel (w : World) (l : List Cd) (op i : Value) (wr : World) : Prop :=
  ∃ (k : Nat) (A : Option Addr) (st : List Int) (c : Nat), k ≤ l.length ∧ i = .int .i64 k ∧ op = .slice A st.length c ∧ OI wr w.heap.size A st.length c st.reverse ∧
    Hid (pvRun [] (l.take k) = some st) ∧ st.length ≤ 3 ∧ Below w.heap.size w wr

set_option maxRecDepth 100000 in
set_option maxHeartbeats 2000000 in
theorem sProgramValid_c (A : Option Addr) (c : Nat) (l : List Cd) (w : World) (hA : RdC w w.heap.size A l) (hl : l.length ≤ 1000000000) :
    Calls Tryz.prog 36 #[.slice A l.length c] w fun e w' => e = .returned (.bool (pv l)) ∧ Below w.heap.size w w' := by
  go_enter Tryz.func36, Tryz.ntmps36
  go_wp2
  go_loopw [3, 4] (fun op i wr => SVRel w l op i wr) (fun _ i _ => l.length - (intOf i).toNat)
  case atStart => exact ⟨0, _, [], 0, Nat.zero_le _, rfl, rfl, OR.lit w _ _ 1 0 #[] (Nat.le_refl _) (by omega) rfl, rfl, by simp, (by repeat (first | exact Below.refl _ _ | assumption | refine Below.alloc ?_ (by simp <;> omega) _ | refine Below.setCell ?_ (by simp <;> omega) _ | refine Below.drew ?_))⟩
  case round =>
    obtain ⟨k, A1, st, c1, hk, rfl, rfl, ho, HP, hs3, hb⟩ := hrel
    by_cases hlt : k < l.length
    · obtain ⟨b, off, x, rfl, hbB, hx, c0, c1', c2, c3⟩ := (hA.below hb).at_ hlt
      have HX := Lib.hid hx
      clear hx
      go_wp2_with fail
      refine (sCodeValid_c x _).mono ?_
      rintro e w1 ⟨rfl, hb1⟩
      have hb2 := below_trans hb (Nat.le_refl _) hb1
      have ho1 := ho.below hb1 (Nat.le_refl _)
      replace c0 := cell_kept hb1 c0
      clear c1' c2 c3
      cases hv : cvOk x with
      | false =>
        go_wp2
        go_ret
        exact ⟨retb (pv_fail HX.out HP.out (step_bad hv)).symm, hb2⟩
      | true =>
        by_cases h11 : x.op = 11 ∨ x.op = 13
        · have hstep := step_open (st := st) hv h11
          by_cases h3 : st.length < 3
          · rw [if_pos h3] at hstep
            have HS := Lib.hid hstep
            clear hstep
            rcases h11 with h | h
            all_goals
              first | have e11 : (x.op == 11) = true := by simp [h] | have e11 : (x.op == 11) = false := by simp [h]
              first | have e13 : (x.op == 13) = true := by simp [h] | have e13 : (x.op == 13) = false := by simp [h]
              have h4 : ¬ 3 < st.length + 1 := by omega
              clear h
              go_wp2_with (at_builtin; refine app_int rfl _ _ rfl w.heap.size _ _ _ _ (ho1.alloc _) rfl x.op w1.heap.size 1 rfl ?hc ?hn ?hbase ?_)
              case hc => simp
              case hn => omega
              case hbase => have := hb2.size; simp; omega
              intro A' c' w2 ho2 hg2
              go_wp2
              go_roundw
              case rel => exact ⟨k + 1, A', x.op :: st, c', by omega, by go_num, rfl, by simpa using ho2, Lib.hid (pvRun_take HX.out HP.out HS.out), by simp; omega, below_app hb2 (Nat.le_trans hb.size hb1.size) ho1 (Nat.le_refl _) hg2⟩
              case measure => simp [intOf]; omega
          · rw [if_neg h3] at hstep
            have HS := Lib.hid hstep
            clear hstep
            rcases h11 with h | h
            all_goals
              first | have e11 : (x.op == 11) = true := by simp [h] | have e11 : (x.op == 11) = false := by simp [h]
              first | have e13 : (x.op == 13) = true := by simp [h] | have e13 : (x.op == 13) = false := by simp [h]
              have h4 : 3 < st.length + 1 := by omega
              clear h
              go_wp2_with (at_builtin; refine app_int rfl _ _ rfl w.heap.size _ _ _ _ (ho1.alloc _) rfl x.op w1.heap.size 1 rfl ?hc ?hn ?hbase ?_)
              case hc => simp
              case hn => omega
              case hbase => have := hb2.size; simp; omega
              intro A' c' w2 ho2 hg2
              go_wp2
              go_ret
              exact ⟨retb (pv_fail HX.out HP.out HS.out).symm, below_app hb2 (Nat.le_trans hb.size hb1.size) ho1 (Nat.le_refl _) hg2⟩
        · have n11 : x.op ≠ 11 := fun h => h11 (.inl h)
          have n13 : x.op ≠ 13 := fun h => h11 (.inr h)
          have e11 : (x.op == 11) = false := beq_eq_false_iff_ne.2 n11
          have e13 : (x.op == 13) = false := beq_eq_false_iff_ne.2 n13
          clear h11
          by_cases h12 : x.op = 12
          · have e12 : (x.op == 12) = true := beq_iff_eq.2 h12
            cases st with
            | nil =>
              have HS := Lib.hid (step_else0 hv h12)
              clear h12 n11 n13
              go_wp2
              go_ret
              exact ⟨retb (pv_fail HX.out HP.out HS.out).symm, hb2⟩
            | cons m st =>
              have hstep := step_else (m := m) (t := st) hv h12
              obtain ⟨g, rfl, hg1, hg2, hcell, hfr, hset⟩ := ho1.at_ (by simp)
              have hm := hcell st.length (.int .i64 m) (by simp)
              have hf := hfr st.length
              have hs := hset st.length (.int .i64 12)
              have HL := Lib.hid hcell
              clear hcell hfr hset h12 n11 n13
              by_cases hm11 : m = 11
              · rw [if_pos hm11] at hstep
                have HS := Lib.hid hstep
                have em : (m != 11) = false := by simp [hm11]
                clear hstep hm11
                have h4 : ¬ 3 < st.length + 1 := by simp at hs3; omega
                go_wp2
                go_roundw
                case rel =>
                  refine ⟨k + 1, _, 12 :: st, _, by omega, by go_num, rfl, ?_, Lib.hid (pvRun_take HX.out HP.out HS.out), by simp at hs3 ⊢; omega, hb2.setCell hg1 _⟩
                  have e : ((m :: st).reverse.map (Value.int .i64)).set st.length (.int .i64 12) = (12 :: st).reverse.map (Value.int .i64) := by
                    rw [List.reverse_cons, List.map_append, List.set_append_right (h := by simp)]
                    simp
                  rw [e] at hs
                  exact hs
                case measure => simp [intOf]; omega
              · rw [if_neg hm11] at hstep
                have HS := Lib.hid hstep
                have em : (m != 11) = true := by simp [hm11]
                clear hstep hm11
                go_wp2
                go_ret
                exact ⟨retb (pv_fail HX.out HP.out HS.out).symm, hb2⟩
          · have e12 : (x.op == 12) = false := beq_eq_false_iff_ne.2 h12
            by_cases h14 : x.op = 14
            · have e14 : (x.op == 14) = true := beq_iff_eq.2 h14
              cases st with
              | nil =>
                have HS := Lib.hid (step_end0 hv h14)
                clear h12 n11 n13 h14
                go_wp2
                go_ret
                exact ⟨retb (pv_fail HX.out HP.out HS.out).symm, hb2⟩
              | cons m st =>
                have HS := Lib.hid (step_end (m := m) (t := st) hv h14)
                have ht := ho1.take_ (m := st.length) (by simp)
                clear h12 n11 n13 h14
                have h4 : ¬ 3 < st.length := by simp at hs3; omega
                have h5 : st.length ≤ c1 := by have := ho1.cap_; simp at this; omega
                go_wp2
                go_roundw
                case rel =>
                  refine ⟨k + 1, _, st, _, by omega, by go_num, rfl, ?_, Lib.hid (pvRun_take HX.out HP.out HS.out), by omega, hb2⟩
                  have e : ((m :: st).reverse.map (Value.int .i64)).take (st.length * 1) = st.reverse.map (Value.int .i64) := by
                    rw [List.reverse_cons, List.map_append, List.take_append_of_le_length (by simp), List.take_of_length_le (by simp)]
                  rw [e] at ht
                  exact ht
                case measure => simp [intOf]; omega
            · have e14 : (x.op == 14) = false := beq_eq_false_iff_ne.2 h14
              have HS := Lib.hid (step_same (st := st) hv n11 n13 h12 h14)
              have h4 : ¬ 3 < st.length := by omega
              clear h12 n11 n13 h14
              go_wp2
              go_roundw
              case rel => exact ⟨k + 1, _, st, _, by omega, by go_num, rfl, ho1, Lib.hid (pvRun_take HX.out HP.out HS.out), hs3, hb2⟩
              case measure => simp [intOf]; omega
    · obtain rfl : k = l.length := by omega
      have hp := HP.out
      rw [List.take_length] at hp
      have HQ := Lib.hid hp
      clear hp
      go_wp2_with fail
      all_goals go_ret
      all_goals refine ⟨retb ?_, hb⟩
      all_goals (unfold pv; rw [HQ.out])
      · have h : st = [] := by assumption
        subst h
        simp only [Bool.and_true]
        exact decide_eq_decide.2 (by omega)
      · have h : ¬ st = [] := by assumption
        cases st with
        | nil => exact absurd rfl h
        | cons m st => simp

def chk (o : Int) (i : Nat) (n : Int) : Bool :=
  if (i : Int) < regsN o then inR n 0 3 else if i == 1 && o == 1 then inR n 0 255 else if i == 1 && o == 13 then inR n 1 4 else n == 0

theorem chk_all (x : Cd) : (chk x.op 0 x.a && (chk x.op 1 x.b && (chk x.op 2 x.c && inR x.op 1 14))) = cvOk x := by
  rcases x with ⟨o, a, b, c⟩
  simp only
  by_cases h : 1 ≤ o ∧ o ≤ 14
  · obtain ⟨h1, h2⟩ := h
    have : o = 1 ∨ o = 2 ∨ o = 3 ∨ o = 4 ∨ o = 5 ∨ o = 6 ∨ o = 7 ∨ o = 8 ∨ o = 9 ∨ o = 10 ∨ o = 11 ∨ o = 12 ∨ o = 13 ∨ o = 14 := by omega
    rcases this with rfl | rfl | rfl | rfl | rfl | rfl | rfl | rfl | rfl | rfl | rfl | rfl | rfl | rfl <;> simp [chk, regsN, cvOk, inR, Bool.and_assoc]
  · have e : ∀ k : Int, 1 ≤ k → k ≤ 14 → (o == k) = false := fun k a b => by rw [beq_eq_false_iff_ne]; omega
    have e2 : inR o 1 14 = false := by rw [inR_not]; omega
    simp [chk, regsN, cvOk, e, e2]

def numAt (a b c : Int) (k : Nat) : Int := if k = 0 then a else if k = 1 then b else c

set_option maxRecDepth 100000 in
set_option maxHeartbeats 2000000 in
theorem iCodeValid_c (x : Cd) (w : World) :
    Calls Tryz.prog 83 #[x.val] w fun e w' => e = .returned (.bool (cvOk x)) ∧ Below w.heap.size w w' := by
  have HC := Lib.hid (chk_all x)
  obtain ⟨o, a, b, c⟩ := x
  unfold Cd.val
  go_enter Tryz.func83, Tryz.ntmps83
  go_wp2
  have hb0 : Below w.heap.size w ((w.alloc (.cells #[.int .i64 o, .int .i64 a, .int .i64 b, .int .i64 c] 76)).alloc (.cells #[.int .i64 a, .int .i64 b, .int .i64 c] 3)) := (by repeat (first | exact Below.refl _ _ | assumption | refine Below.alloc ?_ (by simp <;> omega) _ | refine Below.setCell ?_ (by simp <;> omega) _ | refine Below.drew ?_))
  have hop : ((w.alloc (.cells #[.int .i64 o, .int .i64 a, .int .i64 b, .int .i64 c] 76)).alloc (.cells #[.int .i64 a, .int .i64 b, .int .i64 c] 3)).cell? ⟨w.heap.size, 0, none⟩ = some (.int .i64 o) := by simp [go_sem]
  have hn : ∀ k, k < 3 → ((w.alloc (.cells #[.int .i64 o, .int .i64 a, .int .i64 b, .int .i64 c] 76)).alloc (.cells #[.int .i64 a, .int .i64 b, .int .i64 c] 3)).cell? ⟨w.heap.size + 1, k, none⟩ = some (.int .i64 (numAt a b c k)) := by
    intro k hk
    have : k = 0 ∨ k = 1 ∨ k = 2 := by omega
    rcases this with rfl | rfl | rfl <;> simp [go_sem, numAt]
  generalize (w.alloc (.cells #[.int .i64 o, .int .i64 a, .int .i64 b, .int .i64 c] 76)).alloc (.cells #[.int .i64 a, .int .i64 b, .int .i64 c] 3) = w1 at *
  have HN := Lib.hid hn
  clear hn
  go_loop [15] (fun i => ∃ k : Nat, k ≤ 3 ∧ i = .int .i64 k ∧ Hid (∀ j, j < k → chk o j (numAt a b c j) = true)) (fun i => 3 - (intOf i).toNat)
  case atStart => exact ⟨0, by omega, rfl, fun j hj => by omega⟩
  case round =>
    obtain ⟨k, hk, rfl, HP⟩ := hrel
    by_cases hlt : k < 3
    · have h3 : k = 0 ∨ k = 1 ∨ k = 2 := by omega
      clear hk hlt
      rcases h3 with rfl | rfl | rfl
      case inl =>
        have hc := HN.out 0 (by omega)
        have hz : numAt a b c 0 = a := rfl
        rw [hz] at hc
        have HZ := Lib.hid hz
        clear hz
        go_wp2_with (first | (go_at_call 119; refine (registers_c _ _).mono ?_; rintro e w' ⟨rfl, rfl⟩) | (go_at_call 120; refine (isReg_c _ _).mono ?_; rintro e w' ⟨rfl, rfl⟩) | (go_at_call 86; refine (isWord_c _ _).mono ?_; rintro e w' ⟨rfl, rfl⟩) | (go_at_call 54; refine (within_c _ _ _ _).mono ?_; rintro e w' ⟨rfl, rfl⟩))
        all_goals
          first
            | (go_ret
               have hf : chk o 0 a = false := by (unfold chk; first | (rw [if_pos (by omega)]; simp_all; done) | (rw [if_neg (by omega)]; simp_all; done))
               have hx := HC.out
               simp only [hf] at hx
               exact ⟨retb (by simpa using hx), hb0⟩)
            | (have hf : chk o 0 a = true := by (unfold chk; first | (rw [if_pos (by omega)]; simp_all; done) | (rw [if_neg (by omega)]; simp_all; done))
               go_round
               case rel => exact ⟨1, by omega, by go_num, fun j hj => by obtain rfl : j = 0 := (by omega); rw [HZ.out]; exact hf⟩
               case measure => simp [intOf])
      case inr.inl =>
        have hc := HN.out 1 (by omega)
        have hz : numAt a b c 1 = b := rfl
        rw [hz] at hc
        have HZ := Lib.hid hz
        clear hz
        go_wp2_with (first | (go_at_call 119; refine (registers_c _ _).mono ?_; rintro e w' ⟨rfl, rfl⟩) | (go_at_call 120; refine (isReg_c _ _).mono ?_; rintro e w' ⟨rfl, rfl⟩) | (go_at_call 86; refine (isWord_c _ _).mono ?_; rintro e w' ⟨rfl, rfl⟩) | (go_at_call 54; refine (within_c _ _ _ _).mono ?_; rintro e w' ⟨rfl, rfl⟩))
        all_goals
          first
            | (go_ret
               have hf : chk o 1 b = false := by (unfold chk; first | (rw [if_pos (by omega)]; simp_all; done) | (rw [if_neg (by omega)]; simp_all; done))
               have hx := HC.out
               simp only [hf] at hx
               exact ⟨retb (by simpa using hx), hb0⟩)
            | (have hf : chk o 1 b = true := by (unfold chk; first | (rw [if_pos (by omega)]; simp_all; done) | (rw [if_neg (by omega)]; simp_all; done))
               go_round
               case rel => exact ⟨2, by omega, by go_num, fun j hj => by
                 by_cases hj0 : j = 0
                 · subst hj0; exact HP.out 0 (by omega)
                 · obtain rfl : j = 1 := by omega
                   rw [HZ.out]; exact hf⟩
               case measure => simp [intOf])
      case inr.inr =>
        have hc := HN.out 2 (by omega)
        have hz : numAt a b c 2 = c := rfl
        rw [hz] at hc
        have HZ := Lib.hid hz
        clear hz
        go_wp2_with (first | (go_at_call 119; refine (registers_c _ _).mono ?_; rintro e w' ⟨rfl, rfl⟩) | (go_at_call 120; refine (isReg_c _ _).mono ?_; rintro e w' ⟨rfl, rfl⟩) | (go_at_call 86; refine (isWord_c _ _).mono ?_; rintro e w' ⟨rfl, rfl⟩) | (go_at_call 54; refine (within_c _ _ _ _).mono ?_; rintro e w' ⟨rfl, rfl⟩))
        all_goals
          first
            | (go_ret
               have hf : chk o 2 c = false := by (unfold chk; first | (rw [if_pos (by omega)]; simp_all; done) | (rw [if_neg (by omega)]; simp_all; done))
               have hx := HC.out
               simp only [hf] at hx
               exact ⟨retb (by simpa using hx), hb0⟩)
            | (have hf : chk o 2 c = true := by (unfold chk; first | (rw [if_pos (by omega)]; simp_all; done) | (rw [if_neg (by omega)]; simp_all; done))
               go_round
               case rel => exact ⟨3, by omega, by go_num, fun j hj => by
                 by_cases hj0 : j = 2
                 · subst hj0
                   rw [HZ.out]; exact hf
                 · exact HP.out j (by omega)⟩
               case measure => simp [intOf])
    · obtain rfl : k = 3 := by omega
      go_wp2_with (go_at_call 54; refine (within_c _ _ _ _).mono ?_; rintro e w' ⟨rfl, rfl⟩)
      go_ret
      have h0 := HP.out 0 (by omega)
      have h1 := HP.out 1 (by omega)
      have h2 := HP.out 2 (by omega)
      have hx := HC.out
      simp [numAt] at h0 h1 h2
      simp only [h0, h1, h2, Bool.true_and] at hx
      exact ⟨retb hx, hb0⟩


/-- w' is w but for the blocks b and c, and new blocks. -/
structure Off (w w' : World) (b c : Nat) : Prop where
  os : w'.os = w.os
  tape : w'.tape = w.tape
  output : w'.output = w.output
  size : w.heap.size ≤ w'.heap.size
  block : ∀ k, k < w.heap.size → k ≠ b → k ≠ c → w'.heap[k]? = w.heap[k]?
theorem Off.refl (w : World) (b c : Nat) : Off w w b c := ⟨rfl, rfl, rfl, Nat.le_refl _, fun _ _ _ _ => rfl⟩
theorem Off.alloc {w w' : World} {b c : Nat} (h : Off w w' b c) (o : Obj) : Off w (w'.alloc o) b c :=
  ⟨h.os, h.tape, h.output, Nat.le_trans h.size (by simp), fun k hk h1 h2 => (Below.heap_alloc _ _ _ (Nat.lt_of_lt_of_le hk h.size)).trans (h.block k hk h1 h2)⟩
theorem Off.drew {w w' : World} {b c : Nat} (h : Off w w' b c) : Off w w'.drew b c := ⟨h.os, h.tape, h.output, h.size, h.block⟩
theorem Off.set1 {w w' : World} {b c : Nat} (h : Off w w' b c) (i : Nat) (u : Value) : Off w (w'.setCell ⟨b, i, none⟩ u) b c :=
  ⟨h.os, h.tape, h.output, by rw [size_set]; exact h.size, fun k hk h1 h2 => (heap_set_other h1 i u).trans (h.block k hk h1 h2)⟩
theorem Off.set2 {w w' : World} {b c : Nat} (h : Off w w' b c) (i : Nat) (u : Value) : Off w (w'.setCell ⟨c, i, none⟩ u) b c :=
  ⟨h.os, h.tape, h.output, by rw [size_set]; exact h.size, fun k hk h1 h2 => (heap_set_other h2 i u).trans (h.block k hk h1 h2)⟩

theorem sWordAdd_c (a b : Int) (w : World) (ha : 0 ≤ a ∧ a ≤ 255) (hb : 0 ≤ b ∧ b ≤ 255) :
    Calls Tryz.prog 126 #[.int .i64 a, .int .i64 b] w fun e w' => e = .returned (.int .i64 ((a + b) % 256)) ∧ w = w' := by
  have h1 : inR a 0 255 = true := inR_iff.2 ha
  have h2 : inR b 0 255 = true := inR_iff.2 hb
  obtain ⟨a1, a2⟩ := ha
  obtain ⟨b1, b2⟩ := hb
  go_enter Tryz.func126, Tryz.ntmps126
  go_wp2_with (go_at_call 68; refine (l2Word_c _ _).mono ?_; rintro e w' ⟨rfl, rfl⟩)
  go_ret
  exact ⟨rfl, rfl⟩

theorem sWordMul_c (a b : Int) (w : World) (ha : 0 ≤ a ∧ a ≤ 255) (hb : 0 ≤ b ∧ b ≤ 255) :
    Calls Tryz.prog 127 #[.int .i64 a, .int .i64 b] w fun e w' => e = .returned (.int .i64 (a * b % 256)) ∧ w = w' := by
  have h1 : inR a 0 255 = true := inR_iff.2 ha
  have h2 : inR b 0 255 = true := inR_iff.2 hb
  have p1 : 0 ≤ a * b := Int.mul_nonneg ha.1 hb.1
  have p2 : a * b ≤ 65025 := by
    have := Int.mul_le_mul ha.2 hb.2 hb.1 (by omega)
    omega
  obtain ⟨a1, a2⟩ := ha
  obtain ⟨b1, b2⟩ := hb
  go_enter Tryz.func127, Tryz.ntmps127
  go_wp2_with (go_at_call 68; refine (l2Word_c _ _).mono ?_; rintro e w' ⟨rfl, rfl⟩)
  go_ret
  exact ⟨rfl, rfl⟩

theorem sWordLess_c (a b : Int) (w : World) (ha : 0 ≤ a ∧ a ≤ 255) (hb : 0 ≤ b ∧ b ≤ 255) :
    Calls Tryz.prog 128 #[.int .i64 a, .int .i64 b] w fun e w' => e = .returned (.int .i64 (lessI a b)) ∧ w = w' := by
  have h1 : inR a 0 255 = true := inR_iff.2 ha
  have h2 : inR b 0 255 = true := inR_iff.2 hb
  by_cases h : a < b
  all_goals
    go_enter Tryz.func128, Tryz.ntmps128
    go_wp2_with (go_at_call 68; refine (l2Word_c _ _).mono ?_; rintro e w' ⟨rfl, rfl⟩)
    go_ret
    exact ⟨reti (by simp [lessI, h]), rfl⟩

theorem iWordAdd_c (a b : Int) (w : World) (ha : 0 ≤ a ∧ a ≤ 255) (hb : 0 ≤ b ∧ b ≤ 255) :
    Calls Tryz.prog 146 #[.int .i64 a, .int .i64 b] w fun e w' => e = .returned (.int .i64 ((a + b) % 256)) ∧ w = w' := by
  have h1 : inR a 0 255 = true := inR_iff.2 ha
  have h2 : inR b 0 255 = true := inR_iff.2 hb
  obtain ⟨a1, a2⟩ := ha
  obtain ⟨b1, b2⟩ := hb
  go_enter Tryz.func146, Tryz.ntmps146
  go_wp2_with (go_at_call 86; refine (isWord_c _ _).mono ?_; rintro e w' ⟨rfl, rfl⟩)
  go_ret
  exact ⟨rfl, rfl⟩

theorem iWordMul_c (a b : Int) (w : World) (ha : 0 ≤ a ∧ a ≤ 255) (hb : 0 ≤ b ∧ b ≤ 255) :
    Calls Tryz.prog 147 #[.int .i64 a, .int .i64 b] w fun e w' => e = .returned (.int .i64 (a * b % 256)) ∧ w = w' := by
  have h1 : inR a 0 255 = true := inR_iff.2 ha
  have h2 : inR b 0 255 = true := inR_iff.2 hb
  have p1 : 0 ≤ a * b := Int.mul_nonneg ha.1 hb.1
  have p2 : a * b ≤ 65025 := by
    have := Int.mul_le_mul ha.2 hb.2 hb.1 (by omega)
    omega
  obtain ⟨a1, a2⟩ := ha
  obtain ⟨b1, b2⟩ := hb
  go_enter Tryz.func147, Tryz.ntmps147
  go_wp2_with (go_at_call 86; refine (isWord_c _ _).mono ?_; rintro e w' ⟨rfl, rfl⟩)
  go_ret
  exact ⟨rfl, rfl⟩

theorem iWordLess_c (a b : Int) (w : World) (ha : 0 ≤ a ∧ a ≤ 255) (hb : 0 ≤ b ∧ b ≤ 255) :
    Calls Tryz.prog 148 #[.int .i64 a, .int .i64 b] w fun e w' => e = .returned (.int .i64 (lessI a b)) ∧ w = w' := by
  have h1 : inR a 0 255 = true := inR_iff.2 ha
  have h2 : inR b 0 255 = true := inR_iff.2 hb
  by_cases h : a < b
  all_goals
    go_enter Tryz.func148, Tryz.ntmps148
    go_wp2_with (go_at_call 86; refine (isWord_c _ _).mono ?_; rintro e w' ⟨rfl, rfl⟩)
    go_ret
    exact ⟨reti (by simp [lessI, h]), rfl⟩

theorem rg_get {r : List Int} (hr : r.length = 4) {a : Nat} (ha : a ≤ 3) : r[a]? = some (rg r (a : Int)) := by
  have : a < r.length := by omega
  simp [rg, List.getD_eq_getElem?_getD, List.getElem?_eq_getElem this]

theorem calls_flip {f : FuncId} {args : Array Value} {w : World} {v : Value} (h : Calls Tryz.prog f args w fun e w' => e = .returned v ∧ w = w') : Calls Tryz.prog f args w fun e w' => e = .returned v ∧ w' = w :=
  h.mono fun _ _ ⟨h1, h2⟩ => ⟨h1, h2.symm⟩

/-- What one instruction leaves. -/
def Simp1 (w : World) (base rb rc mb mn mc : Nat) (x : Cd) (id : Nat) (r m : List Int) (w' : World) : Prop :=
  OI w' base (some ⟨rb, 0, none⟩) 4 rc (simp1 x id r m).1 ∧ OI w' base (some ⟨mb, 0, none⟩) mn mc (simp1 x id r m).2 ∧ Off w w' rb mb

theorem OR.off {w w' : World} {base e size n c b c' : Nat} {A : Option Addr} {xs : List Value} (h : OR w base e size A n c xs) (ho : Off w w' b c') (h1 : Value.ownBlock (.slice A n c) ≠ some b) (h2 : Value.ownBlock (.slice A n c) ≠ some c') : OR w' base e size A n c xs := by
  refine ⟨h.1, ?_⟩
  rcases h.2 with hn | ⟨g, cap, cur, hv, hbg, hg, r⟩
  · exact .inl hn
  · rw [hv] at h1 h2
    exact .inr ⟨g, cap, cur, hv, hbg, by rw [ho.block g (lt_of_block hg) (fun e => h1 (by rw [e]; rfl)) (fun e => h2 (by rw [e]; rfl))]; exact hg, r⟩
theorem Off.below {w w' : World} {b c B : Nat} (h : Off w w' b c) (hb : B ≤ b) (hc : B ≤ c) (hB : B ≤ w.heap.size) : Below B w w' :=
  ⟨h.os, h.tape, h.output, h.size, fun k hk => h.block k (by omega) (by omega) (by omega)⟩

theorem bit_tm (m k : Nat) : ((((m : Int) / 2 ^ k).tmod 2) == 1) = m.testBit k := by
  have e : ((m : Int) / 2 ^ k) = ((m >>> k : Nat) : Int) := by
    rw [Nat.shiftRight_eq_div_pow]; simp
  rw [e, Int.tmod_eq_emod_of_nonneg (Int.natCast_nonneg _)]
  have h2 : m.testBit k = decide ((m >>> k) % 2 = 1) := by
    have : (m >>> k).testBit 0 = m.testBit k := by rw [Nat.testBit_shiftRight]; simp
    rw [← this, Nat.testBit_zero]
  rw [h2]
  generalize m >>> k = q
  cases h : decide (q % 2 = 1) with
  | true => rw [beq_iff_eq]; have := of_decide_eq_true h; omega
  | false => rw [beq_eq_false_iff_ne]; have := of_decide_eq_false h; omega

theorem OR.byType {w w' : World} {base e size n c : Nat} {A : Option Addr} {xs : List Value} (h : OR w base e size A n c xs) (hk : ∀ (g : Nat) (cs : Array Value), w.heap[g]? = some (.cells cs e (0, 0)) → w'.heap[g]? = some (.cells cs e (0, 0))) : OR w' base e size A n c xs := by
  rcases h.2 with ⟨hv, hn⟩ | ⟨g, cap, cur, hv, hb, hg, hrest⟩
  · exact ⟨h.1, .inl ⟨hv, hn⟩⟩
  · exact ⟨h.1, .inr ⟨g, cap, cur, hv, hb, hk g cur hg, hrest⟩⟩
/-- Behind an append to a row, a block of another type reads as before. -/
theorem grown_cell {wb w2 : World} {base e size n c : Nat} {A : Option Addr} {xs : List Value} (hT : OR wb base e size A n c xs) (hg : wb.grownBy w2 (Value.ownBlock (.slice A n c))) {b : Nat} {cs : Array Value} {t : TypeId} (hb : wb.heap[b]? = some (.cells cs t (0, 0))) (hne : e ≠ t) (i : Nat) :
    w2.cell? ⟨b, i, none⟩ = wb.cell? ⟨b, i, none⟩ := by
  have h2 : w2.heap[b]? = some (.cells cs t (0, 0)) := (hg.block b (lt_of_block hb) (fun e' => own_ne hT hb hne e'.symm)).trans hb
  rw [cell_of_heap h2, cell_of_heap hb]
theorem grown_free {wb w2 : World} {base e size n c : Nat} {A : Option Addr} {xs : List Value} (hT : OR wb base e size A n c xs) (hg : wb.grownBy w2 (Value.ownBlock (.slice A n c))) {b : Nat} {cs : Array Value} {t : TypeId} (hb : wb.heap[b]? = some (.cells cs t (0, 0))) (hne : e ≠ t) (i : Nat) :
    w2.frozen? ⟨b, i, none⟩ = false := by
  have h2 : w2.heap[b]? = some (.cells cs t (0, 0)) := (hg.block b (lt_of_block hb) (fun e' => own_ne hT hb hne e'.symm)).trans hb
  exact free_of_heap h2 i

set_option maxRecDepth 100000 in
set_option maxHeartbeats 16000000 in
theorem compute_c (x : Cd) (id : Nat) (r m : List Int) (base rb rc mb mc mn : Nat) (w : World) (hv : cvOk x = true) (h10 : x.op ≤ 10) (hid : id ≤ 7)
    (hR : OI w base (some ⟨rb, 0, none⟩) 4 rc r) (hM : OI w base (some ⟨mb, 0, none⟩) mn mc m) (hne : rb ≠ mb) (hr : wordsOk r) (hm : wordsOk m) (hml : 1 ≤ mn ∧ mn ≤ 32) :
    Calls Tryz.prog 124 #[x.val, .int .i64 id, .slice (some ⟨rb, 0, none⟩) 4 rc, .slice (some ⟨mb, 0, none⟩) mn mc] w fun e w' => e = .returned (.tuple #[]) ∧ Simp1 w base rb rc mb mn mc x id r m w' := by
  have hrl : r.length = 4 := OI.len hR
  have hmn : m.length = mn := OI.len hM
  obtain ⟨hRb0, hRb1⟩ := OR.block hR rb rfl
  obtain ⟨hMb0, hMb1⟩ := OR.block hM mb rfl
  obtain ⟨hm1, hm2⟩ := hml
  have ha := cvOk_a hv
  have hb := cvOk_b hv
  have hc := cvOk_c hv
  have hb2 := cvOk_b2 hv
  have ho := op14' hv h10
  obtain ⟨a, hae⟩ := Int.eq_ofNat_of_zero_le ha.1
  obtain ⟨b, hbe⟩ := Int.eq_ofNat_of_zero_le hb.1
  obtain ⟨c, hce⟩ := Int.eq_ofNat_of_zero_le hc.1
  obtain ⟨o, xa, xb, xc⟩ := x
  simp only at ha hb hc hb2 hae hbe hce ho h10
  subst hae hbe hce
  have la : a ≤ 3 := by omega
  have lc : c ≤ 3 := by omega
  have a4 : (a : Int) < 4 := by omega
  have c4 : (c : Int) < 4 := by omega
  have ca := (OI.at0 hR).1 a _ (rg_get hrl la)
  have cc := (OI.at0 hR).1 c _ (rg_get hrl lc)
  have wa := rg_word hr a
  have wc := rg_word hr c
  have wb := rg_word hr b
  have fa := (OI.at0 hR).2.1 a
  have HR := Lib.hid hR
  have HM := Lib.hid hM
  have HRL := Lib.hid hrl
  have HMN := Lib.hid hmn
  have hob1 : Value.ownBlock (.slice (some ⟨mb, 0, none⟩) mn mc) ≠ some rb := fun e => hne (by injection e with e; exact e.symm)
  have hob2 : Value.ownBlock (.slice (some ⟨rb, 0, none⟩) 4 rc) ≠ some mb := fun e => hne (by injection e with e)
  have HO1 := Lib.hid hob1
  have HO2 := Lib.hid hob2
  have HX0 := Lib.hid (Off.refl w rb mb)
  clear hR hM hr hrl hmn hv hob1 hob2
  unfold Cd.val
  rcases ho with rfl | rfl | rfl | rfl | rfl | rfl | rfl | rfl | rfl | rfl
  · clear hb2 hm
    go_enter Tryz.func124, Tryz.ntmps124
    go_wp2
    go_end0
    exact ⟨rfl, OR.alloc ((OI.at0 HR.out).2.2 a b) _, OR.alloc (OR.set_other HM.out (p := ⟨rb, a, none⟩) HO1.out _) _, (HX0.out.set1 _ _).alloc _⟩
  · clear hb2 hm
    go_enter Tryz.func124, Tryz.ntmps124
    go_wp2
    go_end0
    exact ⟨rfl, OR.alloc ((OI.at0 HR.out).2.2 a id) _, OR.alloc (OR.set_other HM.out (p := ⟨rb, a, none⟩) HO1.out _) _, (HX0.out.set1 _ _).alloc _⟩
  · -- op 3
    have lb : b ≤ 3 := by have := hb2 (by omega); omega
    have b4 : (b : Int) < 4 := by omega
    have cb := (OI.at0 HR.out).1 b _ (rg_get HRL.out lb)
    clear hb2 hm
    go_enter Tryz.func124, Tryz.ntmps124
    go_wp2_with fail
    obtain ⟨d0, d1, d2, d3⟩ := cd_cells w ⟨3, a, b, c⟩ 76
    simp only at d0 d1 d2 d3
    have hX := Ext.alloc w (.cells #[.int .i64 3, .int .i64 a, .int .i64 b, .int .i64 c] 76)
    have hO := HX0.out.alloc (.cells #[.int .i64 3, .int .i64 a, .int .i64 b, .int .i64 c] 76)
    replace ca := hX.cell ca
    replace cb := hX.cell cb
    replace cc := hX.cell cc
    have HR2 := Lib.hid (OR.ext HR.out hX)
    have HM2 := Lib.hid (OR.ext HM.out hX)
    replace fa := (OI.at0 HR2.out).2.1 a
    generalize w.alloc (.cells #[.int .i64 3, .int .i64 a, .int .i64 b, .int .i64 c] 76) = W at *
    have HO := Lib.hid hO
    clear hX hO
    go_still_tail 15, (by kernel_rfl)
    still_call (calls_flip (iWordAdd_c _ _ _ wa wb))
    repeat still_step
    try refine wpStill_nil ?_
    go_wp2
    go_end0
    exact ⟨rfl, OR.drew ((OI.at0 HR2.out).2.2 a ((rg r a + rg r b) % 256)), OR.drew (OR.set_other HM2.out (p := ⟨rb, a, none⟩) HO1.out _), (HO.out.set1 _ _).drew⟩
  · -- op 4
    have lb : b ≤ 3 := by have := hb2 (by omega); omega
    have b4 : (b : Int) < 4 := by omega
    have cb := (OI.at0 HR.out).1 b _ (rg_get HRL.out lb)
    clear hb2 hm
    go_enter Tryz.func124, Tryz.ntmps124
    go_wp2_with fail
    obtain ⟨d0, d1, d2, d3⟩ := cd_cells w ⟨4, a, b, c⟩ 76
    simp only at d0 d1 d2 d3
    have hX := Ext.alloc w (.cells #[.int .i64 4, .int .i64 a, .int .i64 b, .int .i64 c] 76)
    have hO := HX0.out.alloc (.cells #[.int .i64 4, .int .i64 a, .int .i64 b, .int .i64 c] 76)
    replace ca := hX.cell ca
    replace cb := hX.cell cb
    replace cc := hX.cell cc
    have HR2 := Lib.hid (OR.ext HR.out hX)
    have HM2 := Lib.hid (OR.ext HM.out hX)
    replace fa := (OI.at0 HR2.out).2.1 a
    generalize w.alloc (.cells #[.int .i64 4, .int .i64 a, .int .i64 b, .int .i64 c] 76) = W at *
    have HO := Lib.hid hO
    clear hX hO
    go_still_tail 15, (by kernel_rfl)
    still_call (calls_flip (iWordMul_c _ _ _ wa wb))
    repeat still_step
    try refine wpStill_nil ?_
    go_wp2
    go_end0
    exact ⟨rfl, OR.drew ((OI.at0 HR2.out).2.2 a (rg r a * rg r b % 256)), OR.drew (OR.set_other HM2.out (p := ⟨rb, a, none⟩) HO1.out _), (HO.out.set1 _ _).drew⟩
  · -- op 5
    have lb : b ≤ 3 := by have := hb2 (by omega); omega
    have b4 : (b : Int) < 4 := by omega
    have cb := (OI.at0 HR.out).1 b _ (rg_get HRL.out lb)
    clear hb2 hm
    go_enter Tryz.func124, Tryz.ntmps124
    go_wp2_with fail
    obtain ⟨d0, d1, d2, d3⟩ := cd_cells w ⟨5, a, b, c⟩ 76
    simp only at d0 d1 d2 d3
    have hX := Ext.alloc w (.cells #[.int .i64 5, .int .i64 a, .int .i64 b, .int .i64 c] 76)
    have hO := HX0.out.alloc (.cells #[.int .i64 5, .int .i64 a, .int .i64 b, .int .i64 c] 76)
    replace ca := hX.cell ca
    replace cb := hX.cell cb
    replace cc := hX.cell cc
    have HR2 := Lib.hid (OR.ext HR.out hX)
    have HM2 := Lib.hid (OR.ext HM.out hX)
    replace fa := (OI.at0 HR2.out).2.1 a
    generalize w.alloc (.cells #[.int .i64 5, .int .i64 a, .int .i64 b, .int .i64 c] 76) = W at *
    have HO := Lib.hid hO
    clear hX hO
    go_still_tail 9, (by kernel_rfl)
    go_wp2
    go_end0
    exact ⟨rfl, OR.drew ((OI.at0 HR2.out).2.2 a (rg r b)), OR.drew (OR.set_other HM2.out (p := ⟨rb, a, none⟩) HO1.out _), (HO.out.set1 _ _).drew⟩
  · -- op 6
    have lb : b ≤ 3 := by have := hb2 (by omega); omega
    have b4 : (b : Int) < 4 := by omega
    have cb := (OI.at0 HR.out).1 b _ (rg_get HRL.out lb)
    clear hb2 hm
    go_enter Tryz.func124, Tryz.ntmps124
    go_wp2_with fail
    obtain ⟨d0, d1, d2, d3⟩ := cd_cells w ⟨6, a, b, c⟩ 76
    simp only at d0 d1 d2 d3
    have hX := Ext.alloc w (.cells #[.int .i64 6, .int .i64 a, .int .i64 b, .int .i64 c] 76)
    have hO := HX0.out.alloc (.cells #[.int .i64 6, .int .i64 a, .int .i64 b, .int .i64 c] 76)
    replace ca := hX.cell ca
    replace cb := hX.cell cb
    replace cc := hX.cell cc
    have HR2 := Lib.hid (OR.ext HR.out hX)
    have HM2 := Lib.hid (OR.ext HM.out hX)
    replace fa := (OI.at0 HR2.out).2.1 a
    generalize w.alloc (.cells #[.int .i64 6, .int .i64 a, .int .i64 b, .int .i64 c] 76) = W at *
    have HO := Lib.hid hO
    clear hX hO
    go_still_tail 15, (by kernel_rfl)
    still_call (calls_flip (iWordLess_c _ _ _ wb wc))
    repeat still_step
    try refine wpStill_nil ?_
    go_wp2
    go_end0
    exact ⟨rfl, OR.drew ((OI.at0 HR2.out).2.2 a (lessI (rg r b) (rg r c))), OR.drew (OR.set_other HM2.out (p := ⟨rb, a, none⟩) HO1.out _), (HO.out.set1 _ _).drew⟩
  · -- op 7
    have lb : b ≤ 3 := by have := hb2 (by omega); omega
    have b4 : (b : Int) < 4 := by omega
    have cb := (OI.at0 HR.out).1 b _ (rg_get HRL.out lb)
    clear hb2 hm
    cases hz : rg r c == 0 with
    | true =>
      have hn : (rg r c != 0) = false := by simp [bne, hz]
      have HZ := Lib.hid hz
      clear hz
      go_enter Tryz.func124, Tryz.ntmps124
      go_wp2
      go_end0
      have e : simp1 ⟨7, a, b, c⟩ id r m = (r, m) := by simp [simp1, HZ.out]
      refine ⟨rfl, ?_⟩
      unfold Simp1
      rw [e]
      exact ⟨OR.alloc HR.out _, OR.alloc HM.out _, HX0.out.alloc _⟩
    | false =>
      have hn : (rg r c != 0) = true := by simp [bne, hz]
      have HZ := Lib.hid hz
      clear hz
      go_enter Tryz.func124, Tryz.ntmps124
      go_wp2_with fail
      obtain ⟨d0, d1, d2, d3⟩ := cd_cells w ⟨7, a, b, c⟩ 76
      simp only at d0 d1 d2 d3
      have hX := Ext.alloc w (.cells #[.int .i64 7, .int .i64 a, .int .i64 b, .int .i64 c] 76)
      have hO := HX0.out.alloc (.cells #[.int .i64 7, .int .i64 a, .int .i64 b, .int .i64 c] 76)
      replace ca := hX.cell ca
      replace cb := hX.cell cb
      replace cc := hX.cell cc
      have HR2 := Lib.hid (OR.ext HR.out hX)
      have HM2 := Lib.hid (OR.ext HM.out hX)
      replace fa := (OI.at0 HR2.out).2.1 a
      generalize w.alloc (.cells #[.int .i64 7, .int .i64 a, .int .i64 b, .int .i64 c] 76) = W at *
      have HO := Lib.hid hO
      clear hX hO
      go_still_tail 9, (by kernel_rfl)
      go_wp2
      go_end0
      have e : simp1 ⟨7, a, b, c⟩ id r m = (r.set a (rg r b), m) := by simp [simp1, HZ.out]
      refine ⟨rfl, ?_⟩
      unfold Simp1
      rw [e]
      exact ⟨OR.drew ((OI.at0 HR2.out).2.2 a (rg r b)), OR.drew (OR.set_other HM2.out (p := ⟨rb, a, none⟩) HO1.out _), (HO.out.set1 _ _).drew⟩
  · -- op 8
    have lb : b ≤ 3 := by have := hb2 (by omega); omega
    have b4 : (b : Int) < 4 := by omega
    have cb := (OI.at0 HR.out).1 b _ (rg_get HRL.out lb)
    clear hb2
    obtain ⟨k, hk0⟩ := Int.eq_ofNat_of_zero_le wb.1
    have hkm : k % mn < mn := Nat.mod_lt _ (by omega)
    have hmod : Int.tmod (rg r b) (mn : Int) = ((k % mn : Nat) : Int) := by rw [hk0, Int.tmod_eq_emod_of_nonneg (by omega)]; omega
    have hwr : IntKind.i64.wrap (Int.tmod (rg r b) (mn : Int)) = ((k % mn : Nat) : Int) := by rw [hmod]; exact IntWalk.i64_in _ (by omega)
    have hidx : (rg r b % (m.length : Int)).toNat = k % mn := by rw [HMN.out, hk0]; omega
    have HIX := Lib.hid hidx
    have hmg : m[k % mn]? = some (m.getD (k % mn) 0) := by rw [List.getD_eq_getElem?_getD, List.getElem?_eq_getElem (by rw [HMN.out]; exact hkm)]; rfl
    have cm := (OI.at0 HM.out).1 _ _ hmg
    have fm := (OI.at0 HM.out).2.1 (k % mn)
    have hmnz : ¬ mn = 0 := by omega
    have hkI : ((k % mn : Nat) : Int) < (mn : Int) := by omega
    have HMG := Lib.hid hmg
    clear hm hmg hidx hk0
    generalize hkk : k % mn = kk at *
    clear hkk
    go_enter Tryz.func124, Tryz.ntmps124
    go_wp2_with fail
    obtain ⟨d0, d1, d2, d3⟩ := cd_cells w ⟨8, a, b, c⟩ 76
    simp only at d0 d1 d2 d3
    have hX := Ext.alloc w (.cells #[.int .i64 8, .int .i64 a, .int .i64 b, .int .i64 c] 76)
    have hO := HX0.out.alloc (.cells #[.int .i64 8, .int .i64 a, .int .i64 b, .int .i64 c] 76)
    replace ca := hX.cell ca
    replace cb := hX.cell cb
    replace cc := hX.cell cc
    have HR2 := Lib.hid (OR.ext HR.out hX)
    have HM2 := Lib.hid (OR.ext HM.out hX)
    replace fa := (OI.at0 HR2.out).2.1 a
    replace cm := hX.cell cm
    replace fm := (OI.at0 HM2.out).2.1 kk
    generalize w.alloc (.cells #[.int .i64 8, .int .i64 a, .int .i64 b, .int .i64 c] 76) = W at *
    have HO := Lib.hid hO
    clear hX hO
    go_still_tail 15, (by kernel_rfl)
    clear hmod hwr hmnz
    go_wp2
    go_end0
    have e : simp1 ⟨8, a, b, c⟩ id r m = (r.set a (m.getD kk 0), m) := by simp only [simp1]; rw [HIX.out]; rfl
    refine ⟨rfl, ?_⟩
    unfold Simp1
    rw [e]
    exact ⟨OR.drew ((OI.at0 HR2.out).2.2 a (m.getD kk 0)), OR.drew (OR.set_other HM2.out (p := ⟨rb, a, none⟩) HO1.out _), (HO.out.set1 _ _).drew⟩
  · -- op 9
    have lb : b ≤ 3 := by have := hb2 (by omega); omega
    have b4 : (b : Int) < 4 := by omega
    have cb := (OI.at0 HR.out).1 b _ (rg_get HRL.out lb)
    clear hb2
    obtain ⟨k, hk0⟩ := Int.eq_ofNat_of_zero_le wb.1
    have hkm : k % mn < mn := Nat.mod_lt _ (by omega)
    have hmod : Int.tmod (rg r b) (mn : Int) = ((k % mn : Nat) : Int) := by rw [hk0, Int.tmod_eq_emod_of_nonneg (by omega)]; omega
    have hwr : IntKind.i64.wrap (Int.tmod (rg r b) (mn : Int)) = ((k % mn : Nat) : Int) := by rw [hmod]; exact IntWalk.i64_in _ (by omega)
    have hidx : (rg r b % (m.length : Int)).toNat = k % mn := by rw [HMN.out, hk0]; omega
    have HIX := Lib.hid hidx
    have hmg : m[k % mn]? = some (m.getD (k % mn) 0) := by rw [List.getD_eq_getElem?_getD, List.getElem?_eq_getElem (by rw [HMN.out]; exact hkm)]; rfl
    have cm := (OI.at0 HM.out).1 _ _ hmg
    have fm := (OI.at0 HM.out).2.1 (k % mn)
    have hmnz : ¬ mn = 0 := by omega
    have hkI : ((k % mn : Nat) : Int) < (mn : Int) := by omega
    have HMG := Lib.hid hmg
    clear hm hmg hidx hk0
    generalize hkk : k % mn = kk at *
    clear hkk
    go_enter Tryz.func124, Tryz.ntmps124
    go_wp2_with fail
    obtain ⟨d0, d1, d2, d3⟩ := cd_cells w ⟨9, a, b, c⟩ 76
    simp only at d0 d1 d2 d3
    have hX := Ext.alloc w (.cells #[.int .i64 9, .int .i64 a, .int .i64 b, .int .i64 c] 76)
    have hO := HX0.out.alloc (.cells #[.int .i64 9, .int .i64 a, .int .i64 b, .int .i64 c] 76)
    replace ca := hX.cell ca
    replace cb := hX.cell cb
    replace cc := hX.cell cc
    have HR2 := Lib.hid (OR.ext HR.out hX)
    have HM2 := Lib.hid (OR.ext HM.out hX)
    replace fa := (OI.at0 HR2.out).2.1 a
    replace cm := hX.cell cm
    replace fm := (OI.at0 HM2.out).2.1 kk
    generalize w.alloc (.cells #[.int .i64 9, .int .i64 a, .int .i64 b, .int .i64 c] 76) = W at *
    have HO := Lib.hid hO
    clear hX hO
    go_still_tail 15, (by kernel_rfl)
    clear hmod hwr hmnz
    go_wp2
    go_end0
    have e : simp1 ⟨9, a, b, c⟩ id r m = (r, m.set kk (rg r a)) := by simp only [simp1]; rw [HIX.out]; rfl
    refine ⟨rfl, ?_⟩
    unfold Simp1
    rw [e]
    exact ⟨OR.drew (OR.set_other HR2.out (p := ⟨mb, kk, none⟩) HO2.out _), OR.drew ((OI.at0 HM2.out).2.2 kk (rg r a)), (HO.out.set2 _ _).drew⟩
  · clear hb2 hm
    go_enter Tryz.func124, Tryz.ntmps124
    go_wp2
    go_end0
    exact ⟨rfl, OR.alloc HR.out _, OR.alloc HM.out _, HX0.out.alloc _⟩


set_option maxRecDepth 100000 in
set_option maxHeartbeats 16000000 in
theorem l6Simple_c (x : Cd) (id : Nat) (r m : List Int) (base rb rc mb mc mn : Nat) (w : World) (hv : cvOk x = true) (h10 : x.op ≤ 10) (hid : id ≤ 7)
    (hR : OI w base (some ⟨rb, 0, none⟩) 4 rc r) (hM : OI w base (some ⟨mb, 0, none⟩) mn mc m) (hne : rb ≠ mb) (hr : wordsOk r) (hm : wordsOk m) (hml : 1 ≤ mn ∧ mn ≤ 32) :
    Calls Tryz.prog 102 #[.slice (some ⟨rb, 0, none⟩) 4 rc, .slice (some ⟨mb, 0, none⟩) mn mc, x.val, .int .i64 id] w fun e w' => e = .returned (.tuple #[]) ∧ Simp1 w base rb rc mb mn mc x id r m w' := by
  have hrl : r.length = 4 := OI.len hR
  have hmn : m.length = mn := OI.len hM
  obtain ⟨hRb0, hRb1⟩ := OR.block hR rb rfl
  obtain ⟨hMb0, hMb1⟩ := OR.block hM mb rfl
  obtain ⟨hm1, hm2⟩ := hml
  have ha := cvOk_a hv
  have hb := cvOk_b hv
  have hc := cvOk_c hv
  have hb2 := cvOk_b2 hv
  have ho := op14' hv h10
  obtain ⟨a, hae⟩ := Int.eq_ofNat_of_zero_le ha.1
  obtain ⟨b, hbe⟩ := Int.eq_ofNat_of_zero_le hb.1
  obtain ⟨c, hce⟩ := Int.eq_ofNat_of_zero_le hc.1
  obtain ⟨o, xa, xb, xc⟩ := x
  simp only at ha hb hc hb2 hae hbe hce ho h10
  subst hae hbe hce
  have la : a ≤ 3 := by omega
  have lc : c ≤ 3 := by omega
  have a4 : (a : Int) < 4 := by omega
  have c4 : (c : Int) < 4 := by omega
  have ca := (OI.at0 hR).1 a _ (rg_get hrl la)
  have cc := (OI.at0 hR).1 c _ (rg_get hrl lc)
  have wa := rg_word hr a
  have wc := rg_word hr c
  have wb := rg_word hr b
  have fa := (OI.at0 hR).2.1 a
  have HR := Lib.hid hR
  have HM := Lib.hid hM
  have HRL := Lib.hid hrl
  have HMN := Lib.hid hmn
  have hob1 : Value.ownBlock (.slice (some ⟨mb, 0, none⟩) mn mc) ≠ some rb := fun e => hne (by injection e with e; exact e.symm)
  have hob2 : Value.ownBlock (.slice (some ⟨rb, 0, none⟩) 4 rc) ≠ some mb := fun e => hne (by injection e with e)
  have HO1 := Lib.hid hob1
  have HO2 := Lib.hid hob2
  have HX0 := Lib.hid (Off.refl w rb mb)
  clear hR hM hr hrl hmn hv hob1 hob2
  unfold Cd.val
  rcases ho with rfl | rfl | rfl | rfl | rfl | rfl | rfl | rfl | rfl | rfl
  · clear hb2 hm
    go_enter Tryz.func102, Tryz.ntmps102
    go_wp2
    go_end0
    exact ⟨rfl, OR.alloc ((OI.at0 HR.out).2.2 a b) _, OR.alloc (OR.set_other HM.out (p := ⟨rb, a, none⟩) HO1.out _) _, (HX0.out.set1 _ _).alloc _⟩
  · clear hb2 hm
    go_enter Tryz.func102, Tryz.ntmps102
    go_wp2
    go_end0
    exact ⟨rfl, OR.alloc ((OI.at0 HR.out).2.2 a id) _, OR.alloc (OR.set_other HM.out (p := ⟨rb, a, none⟩) HO1.out _) _, (HX0.out.set1 _ _).alloc _⟩
  · -- op 3
    have lb : b ≤ 3 := by have := hb2 (by omega); omega
    have b4 : (b : Int) < 4 := by omega
    have cb := (OI.at0 HR.out).1 b _ (rg_get HRL.out lb)
    clear hb2 hm
    go_enter Tryz.func102, Tryz.ntmps102
    go_wp2_with fail
    obtain ⟨d0, d1, d2, d3⟩ := cd_cells w ⟨3, a, b, c⟩ 76
    simp only at d0 d1 d2 d3
    have hX := Ext.alloc w (.cells #[.int .i64 3, .int .i64 a, .int .i64 b, .int .i64 c] 76)
    have hO := HX0.out.alloc (.cells #[.int .i64 3, .int .i64 a, .int .i64 b, .int .i64 c] 76)
    replace ca := hX.cell ca
    replace cb := hX.cell cb
    replace cc := hX.cell cc
    have HR2 := Lib.hid (OR.ext HR.out hX)
    have HM2 := Lib.hid (OR.ext HM.out hX)
    replace fa := (OI.at0 HR2.out).2.1 a
    generalize w.alloc (.cells #[.int .i64 3, .int .i64 a, .int .i64 b, .int .i64 c] 76) = W at *
    have HO := Lib.hid hO
    clear hX hO
    go_still_tail 15, (by kernel_rfl)
    still_call (calls_flip (sWordAdd_c _ _ _ wa wb))
    repeat still_step
    try refine wpStill_nil ?_
    go_wp2
    go_end0
    exact ⟨rfl, OR.drew ((OI.at0 HR2.out).2.2 a ((rg r a + rg r b) % 256)), OR.drew (OR.set_other HM2.out (p := ⟨rb, a, none⟩) HO1.out _), (HO.out.set1 _ _).drew⟩
  · -- op 4
    have lb : b ≤ 3 := by have := hb2 (by omega); omega
    have b4 : (b : Int) < 4 := by omega
    have cb := (OI.at0 HR.out).1 b _ (rg_get HRL.out lb)
    clear hb2 hm
    go_enter Tryz.func102, Tryz.ntmps102
    go_wp2_with fail
    obtain ⟨d0, d1, d2, d3⟩ := cd_cells w ⟨4, a, b, c⟩ 76
    simp only at d0 d1 d2 d3
    have hX := Ext.alloc w (.cells #[.int .i64 4, .int .i64 a, .int .i64 b, .int .i64 c] 76)
    have hO := HX0.out.alloc (.cells #[.int .i64 4, .int .i64 a, .int .i64 b, .int .i64 c] 76)
    replace ca := hX.cell ca
    replace cb := hX.cell cb
    replace cc := hX.cell cc
    have HR2 := Lib.hid (OR.ext HR.out hX)
    have HM2 := Lib.hid (OR.ext HM.out hX)
    replace fa := (OI.at0 HR2.out).2.1 a
    generalize w.alloc (.cells #[.int .i64 4, .int .i64 a, .int .i64 b, .int .i64 c] 76) = W at *
    have HO := Lib.hid hO
    clear hX hO
    go_still_tail 15, (by kernel_rfl)
    still_call (calls_flip (sWordMul_c _ _ _ wa wb))
    repeat still_step
    try refine wpStill_nil ?_
    go_wp2
    go_end0
    exact ⟨rfl, OR.drew ((OI.at0 HR2.out).2.2 a (rg r a * rg r b % 256)), OR.drew (OR.set_other HM2.out (p := ⟨rb, a, none⟩) HO1.out _), (HO.out.set1 _ _).drew⟩
  · -- op 5
    have lb : b ≤ 3 := by have := hb2 (by omega); omega
    have b4 : (b : Int) < 4 := by omega
    have cb := (OI.at0 HR.out).1 b _ (rg_get HRL.out lb)
    clear hb2 hm
    go_enter Tryz.func102, Tryz.ntmps102
    go_wp2_with fail
    obtain ⟨d0, d1, d2, d3⟩ := cd_cells w ⟨5, a, b, c⟩ 76
    simp only at d0 d1 d2 d3
    have hX := Ext.alloc w (.cells #[.int .i64 5, .int .i64 a, .int .i64 b, .int .i64 c] 76)
    have hO := HX0.out.alloc (.cells #[.int .i64 5, .int .i64 a, .int .i64 b, .int .i64 c] 76)
    replace ca := hX.cell ca
    replace cb := hX.cell cb
    replace cc := hX.cell cc
    have HR2 := Lib.hid (OR.ext HR.out hX)
    have HM2 := Lib.hid (OR.ext HM.out hX)
    replace fa := (OI.at0 HR2.out).2.1 a
    generalize w.alloc (.cells #[.int .i64 5, .int .i64 a, .int .i64 b, .int .i64 c] 76) = W at *
    have HO := Lib.hid hO
    clear hX hO
    go_still_tail 9, (by kernel_rfl)
    go_wp2
    go_end0
    exact ⟨rfl, OR.drew ((OI.at0 HR2.out).2.2 a (rg r b)), OR.drew (OR.set_other HM2.out (p := ⟨rb, a, none⟩) HO1.out _), (HO.out.set1 _ _).drew⟩
  · -- op 6
    have lb : b ≤ 3 := by have := hb2 (by omega); omega
    have b4 : (b : Int) < 4 := by omega
    have cb := (OI.at0 HR.out).1 b _ (rg_get HRL.out lb)
    clear hb2 hm
    go_enter Tryz.func102, Tryz.ntmps102
    go_wp2_with fail
    obtain ⟨d0, d1, d2, d3⟩ := cd_cells w ⟨6, a, b, c⟩ 76
    simp only at d0 d1 d2 d3
    have hX := Ext.alloc w (.cells #[.int .i64 6, .int .i64 a, .int .i64 b, .int .i64 c] 76)
    have hO := HX0.out.alloc (.cells #[.int .i64 6, .int .i64 a, .int .i64 b, .int .i64 c] 76)
    replace ca := hX.cell ca
    replace cb := hX.cell cb
    replace cc := hX.cell cc
    have HR2 := Lib.hid (OR.ext HR.out hX)
    have HM2 := Lib.hid (OR.ext HM.out hX)
    replace fa := (OI.at0 HR2.out).2.1 a
    generalize w.alloc (.cells #[.int .i64 6, .int .i64 a, .int .i64 b, .int .i64 c] 76) = W at *
    have HO := Lib.hid hO
    clear hX hO
    go_still_tail 15, (by kernel_rfl)
    still_call (calls_flip (sWordLess_c _ _ _ wb wc))
    repeat still_step
    try refine wpStill_nil ?_
    go_wp2
    go_end0
    exact ⟨rfl, OR.drew ((OI.at0 HR2.out).2.2 a (lessI (rg r b) (rg r c))), OR.drew (OR.set_other HM2.out (p := ⟨rb, a, none⟩) HO1.out _), (HO.out.set1 _ _).drew⟩
  · -- op 7
    have lb : b ≤ 3 := by have := hb2 (by omega); omega
    have b4 : (b : Int) < 4 := by omega
    have cb := (OI.at0 HR.out).1 b _ (rg_get HRL.out lb)
    clear hb2 hm
    cases hz : rg r c == 0 with
    | true =>
      have hn : (rg r c != 0) = false := by simp [bne, hz]
      have HZ := Lib.hid hz
      clear hz
      go_enter Tryz.func102, Tryz.ntmps102
      go_wp2
      go_end0
      have e : simp1 ⟨7, a, b, c⟩ id r m = (r, m) := by simp [simp1, HZ.out]
      refine ⟨rfl, ?_⟩
      unfold Simp1
      rw [e]
      exact ⟨OR.alloc HR.out _, OR.alloc HM.out _, HX0.out.alloc _⟩
    | false =>
      have hn : (rg r c != 0) = true := by simp [bne, hz]
      have HZ := Lib.hid hz
      clear hz
      go_enter Tryz.func102, Tryz.ntmps102
      go_wp2_with fail
      obtain ⟨d0, d1, d2, d3⟩ := cd_cells w ⟨7, a, b, c⟩ 76
      simp only at d0 d1 d2 d3
      have hX := Ext.alloc w (.cells #[.int .i64 7, .int .i64 a, .int .i64 b, .int .i64 c] 76)
      have hO := HX0.out.alloc (.cells #[.int .i64 7, .int .i64 a, .int .i64 b, .int .i64 c] 76)
      replace ca := hX.cell ca
      replace cb := hX.cell cb
      replace cc := hX.cell cc
      have HR2 := Lib.hid (OR.ext HR.out hX)
      have HM2 := Lib.hid (OR.ext HM.out hX)
      replace fa := (OI.at0 HR2.out).2.1 a
      generalize w.alloc (.cells #[.int .i64 7, .int .i64 a, .int .i64 b, .int .i64 c] 76) = W at *
      have HO := Lib.hid hO
      clear hX hO
      go_still_tail 9, (by kernel_rfl)
      go_wp2
      go_end0
      have e : simp1 ⟨7, a, b, c⟩ id r m = (r.set a (rg r b), m) := by simp [simp1, HZ.out]
      refine ⟨rfl, ?_⟩
      unfold Simp1
      rw [e]
      exact ⟨OR.drew ((OI.at0 HR2.out).2.2 a (rg r b)), OR.drew (OR.set_other HM2.out (p := ⟨rb, a, none⟩) HO1.out _), (HO.out.set1 _ _).drew⟩
  · -- op 8
    have lb : b ≤ 3 := by have := hb2 (by omega); omega
    have b4 : (b : Int) < 4 := by omega
    have cb := (OI.at0 HR.out).1 b _ (rg_get HRL.out lb)
    clear hb2
    obtain ⟨k, hk0⟩ := Int.eq_ofNat_of_zero_le wb.1
    have hkm : k % mn < mn := Nat.mod_lt _ (by omega)
    have hmod : Int.tmod (rg r b) (mn : Int) = ((k % mn : Nat) : Int) := by rw [hk0, Int.tmod_eq_emod_of_nonneg (by omega)]; omega
    have hwr : IntKind.i64.wrap (Int.tmod (rg r b) (mn : Int)) = ((k % mn : Nat) : Int) := by rw [hmod]; exact IntWalk.i64_in _ (by omega)
    have hidx : (rg r b % (m.length : Int)).toNat = k % mn := by rw [HMN.out, hk0]; omega
    have HIX := Lib.hid hidx
    have hmg : m[k % mn]? = some (m.getD (k % mn) 0) := by rw [List.getD_eq_getElem?_getD, List.getElem?_eq_getElem (by rw [HMN.out]; exact hkm)]; rfl
    have cm := (OI.at0 HM.out).1 _ _ hmg
    have fm := (OI.at0 HM.out).2.1 (k % mn)
    have hmnz : ¬ mn = 0 := by omega
    have hkI : ((k % mn : Nat) : Int) < (mn : Int) := by omega
    have HMG := Lib.hid hmg
    clear hm hmg hidx hk0
    generalize hkk : k % mn = kk at *
    clear hkk
    go_enter Tryz.func102, Tryz.ntmps102
    go_wp2_with fail
    obtain ⟨d0, d1, d2, d3⟩ := cd_cells w ⟨8, a, b, c⟩ 76
    simp only at d0 d1 d2 d3
    have hX := Ext.alloc w (.cells #[.int .i64 8, .int .i64 a, .int .i64 b, .int .i64 c] 76)
    have hO := HX0.out.alloc (.cells #[.int .i64 8, .int .i64 a, .int .i64 b, .int .i64 c] 76)
    replace ca := hX.cell ca
    replace cb := hX.cell cb
    replace cc := hX.cell cc
    have HR2 := Lib.hid (OR.ext HR.out hX)
    have HM2 := Lib.hid (OR.ext HM.out hX)
    replace fa := (OI.at0 HR2.out).2.1 a
    replace cm := hX.cell cm
    replace fm := (OI.at0 HM2.out).2.1 kk
    generalize w.alloc (.cells #[.int .i64 8, .int .i64 a, .int .i64 b, .int .i64 c] 76) = W at *
    have HO := Lib.hid hO
    clear hX hO
    go_still_tail 15, (by kernel_rfl)
    clear hmod hwr hmnz
    go_wp2
    go_end0
    have e : simp1 ⟨8, a, b, c⟩ id r m = (r.set a (m.getD kk 0), m) := by simp only [simp1]; rw [HIX.out]; rfl
    refine ⟨rfl, ?_⟩
    unfold Simp1
    rw [e]
    exact ⟨OR.drew ((OI.at0 HR2.out).2.2 a (m.getD kk 0)), OR.drew (OR.set_other HM2.out (p := ⟨rb, a, none⟩) HO1.out _), (HO.out.set1 _ _).drew⟩
  · -- op 9
    have lb : b ≤ 3 := by have := hb2 (by omega); omega
    have b4 : (b : Int) < 4 := by omega
    have cb := (OI.at0 HR.out).1 b _ (rg_get HRL.out lb)
    clear hb2
    obtain ⟨k, hk0⟩ := Int.eq_ofNat_of_zero_le wb.1
    have hkm : k % mn < mn := Nat.mod_lt _ (by omega)
    have hmod : Int.tmod (rg r b) (mn : Int) = ((k % mn : Nat) : Int) := by rw [hk0, Int.tmod_eq_emod_of_nonneg (by omega)]; omega
    have hwr : IntKind.i64.wrap (Int.tmod (rg r b) (mn : Int)) = ((k % mn : Nat) : Int) := by rw [hmod]; exact IntWalk.i64_in _ (by omega)
    have hidx : (rg r b % (m.length : Int)).toNat = k % mn := by rw [HMN.out, hk0]; omega
    have HIX := Lib.hid hidx
    have hmg : m[k % mn]? = some (m.getD (k % mn) 0) := by rw [List.getD_eq_getElem?_getD, List.getElem?_eq_getElem (by rw [HMN.out]; exact hkm)]; rfl
    have cm := (OI.at0 HM.out).1 _ _ hmg
    have fm := (OI.at0 HM.out).2.1 (k % mn)
    have hmnz : ¬ mn = 0 := by omega
    have hkI : ((k % mn : Nat) : Int) < (mn : Int) := by omega
    have HMG := Lib.hid hmg
    clear hm hmg hidx hk0
    generalize hkk : k % mn = kk at *
    clear hkk
    go_enter Tryz.func102, Tryz.ntmps102
    go_wp2_with fail
    obtain ⟨d0, d1, d2, d3⟩ := cd_cells w ⟨9, a, b, c⟩ 76
    simp only at d0 d1 d2 d3
    have hX := Ext.alloc w (.cells #[.int .i64 9, .int .i64 a, .int .i64 b, .int .i64 c] 76)
    have hO := HX0.out.alloc (.cells #[.int .i64 9, .int .i64 a, .int .i64 b, .int .i64 c] 76)
    replace ca := hX.cell ca
    replace cb := hX.cell cb
    replace cc := hX.cell cc
    have HR2 := Lib.hid (OR.ext HR.out hX)
    have HM2 := Lib.hid (OR.ext HM.out hX)
    replace fa := (OI.at0 HR2.out).2.1 a
    replace cm := hX.cell cm
    replace fm := (OI.at0 HM2.out).2.1 kk
    generalize w.alloc (.cells #[.int .i64 9, .int .i64 a, .int .i64 b, .int .i64 c] 76) = W at *
    have HO := Lib.hid hO
    clear hX hO
    go_still_tail 15, (by kernel_rfl)
    clear hmod hwr hmnz
    go_wp2
    go_end0
    have e : simp1 ⟨9, a, b, c⟩ id r m = (r, m.set kk (rg r a)) := by simp only [simp1]; rw [HIX.out]; rfl
    refine ⟨rfl, ?_⟩
    unfold Simp1
    rw [e]
    exact ⟨OR.drew (OR.set_other HR2.out (p := ⟨mb, kk, none⟩) HO2.out _), OR.drew ((OI.at0 HM2.out).2.2 kk (rg r a)), (HO.out.set2 _ _).drew⟩
  · clear hb2 hm
    go_enter Tryz.func102, Tryz.ntmps102
    go_wp2
    go_end0
    exact ⟨rfl, OR.alloc HR.out _, OR.alloc HM.out _, HX0.out.alloc _⟩


def beatCells (bs : List (Nat × Nat)) : List Value := bs.flatMap fun q => [.int .i64 q.1, .int .i64 q.2]
theorem beatCells_append (a b : List (Nat × Nat)) : beatCells (a ++ b) = beatCells a ++ beatCells b := by simp [beatCells]
def rowVals (rk : Nat → Nat) (n : Nat) : List Value := (List.range n).map fun k => .slice (some ⟨rk k, 0, none⟩) 4 4
theorem rowVals_get (rk : Nat → Nat) (n k : Nat) (h : k < n) : (rowVals rk n)[k]? = some (.slice (some ⟨rk k, 0, none⟩) 4 4) := by simp [rowVals, h]

/-- Where the parts of a run lie. -/
structure SW where
  B : Nat
  g : Nat
  A : Option Addr
  ca : Nat
  l : List Cd
  n : Nat
  rg : Nat
  rc : Nat
  rk : Nat → Nat
  mb : Nat
  mc : Nat

def SW.row (z : SW) (s : LS) (T : Option Addr) (tc : Nat) (sp : Bool) : Array Value :=
  #[.slice z.A z.l.length z.ca, .int .i64 z.n, .slice (some ⟨z.rg, 0, none⟩) z.n z.rc, .slice (some ⟨z.mb, 0, none⟩) s.mem.length z.mc, .slice T s.beats.length tc, .bool sp, .slice none 0 0, .bool false]

structure SR (w : World) (z : SW) (T : Option Addr) (tc : Nat) (sp : Bool) (s : LS) : Prop where
  blk : w.heap[z.g]? = some (.cells (z.row s T tc sp) 102 (0, 0))
  gB : z.B ≤ z.g
  out : OR w z.B 24 1 (some ⟨z.rg, 0, none⟩) z.n z.rc (rowVals z.rk z.n)
  inn : ∀ k, k < z.n → OI w z.B (some ⟨z.rk k, 0, none⟩) 4 4 (s.regs.getD k [])
  mem : OI w z.B (some ⟨z.mb, 0, none⟩) s.mem.length z.mc s.mem
  trc : OR w z.B 78 2 T s.beats.length tc (beatCells s.beats)
  inj : ∀ j k, j < z.n → k < z.n → z.rk j = z.rk k → j = k
  mne : ∀ k, k < z.n → z.rk k ≠ z.mb
  lst : RdC w z.B z.A z.l

/-- Nothing below B is turned, and no block of instructions. -/
structure Stp (B : Nat) (w w' : World) : Prop where
  bel : Below B w w'
  code : ∀ (k : Nat) (cs : Array Value), w.heap[k]? = some (.cells cs 76 (0, 0)) → w'.heap[k]? = some (.cells cs 76 (0, 0))
theorem Stp.refl (B : Nat) (w : World) : Stp B w w := ⟨Below.refl _ _, fun _ _ h => h⟩
theorem Stp.trans {B : Nat} {a b c : World} (h : Stp B a b) (k : Stp B b c) : Stp B a c := ⟨h.bel.trans k.bel, fun i cs hi => k.code i cs (h.code i cs hi)⟩
theorem Stp.of_ext {B : Nat} {w w' : World} (h : Ext w w') (hB : B ≤ w.heap.size) : Stp B w w' := ⟨h.below.mono hB, fun _ _ hk => h.heap_ hk⟩
theorem Stp.of_below {B : Nat} {w w' : World} (h : Below w.heap.size w w') (hB : B ≤ w.heap.size) : Stp B w w' := Stp.of_ext (Ext.of_below h) hB
theorem Stp.drew {B : Nat} {w w' : World} (h : Stp B w w') : Stp B w w'.drew := ⟨h.bel.drew, h.code⟩
theorem Stp.size {B : Nat} {w w' : World} (h : Stp B w w') : w.heap.size ≤ w'.heap.size := h.bel.size

section
variable {w w' : World} {z : SW} {T : Option Addr} {tc : Nat} {sp : Bool} {s : LS}
theorem SR.ext (h : SR w z T tc sp s) (hx : Ext w w') (hB : z.B ≤ w.heap.size) : SR w' z T tc sp s :=
  ⟨hx.heap_ h.blk, h.gB, h.out.ext hx, fun k hk => OR.ext (h.inn k hk) hx, OR.ext h.mem hx, h.trc.ext hx, h.inj, h.mne, h.lst.below ((hx.below).mono hB)⟩

theorem SR.cells (h : SR w z T tc sp s) : w.cell? ⟨z.g, 0, none⟩ = some (.slice z.A z.l.length z.ca) ∧ w.cell? ⟨z.g, 1, none⟩ = some (.int .i64 z.n) ∧
    w.cell? ⟨z.g, 2, none⟩ = some (.slice (some ⟨z.rg, 0, none⟩) z.n z.rc) ∧ w.cell? ⟨z.g, 3, none⟩ = some (.slice (some ⟨z.mb, 0, none⟩) s.mem.length z.mc) ∧
    w.cell? ⟨z.g, 4, none⟩ = some (.slice T s.beats.length tc) ∧ w.cell? ⟨z.g, 5, none⟩ = some (.bool sp) ∧ w.cell? ⟨z.g, 6, none⟩ = some (.slice none 0 0) := by
  refine ⟨?_, ?_, ?_, ?_, ?_, ?_, ?_⟩ <;> (rw [cell_of_heap h.blk]; rfl)
theorem SR.rowAt (h : SR w z T tc sp s) {k : Nat} (hk : k < z.n) : w.cell? ⟨z.rg, k, none⟩ = some (.slice (some ⟨z.rk k, 0, none⟩) 4 4) :=
  (OR.at0 h.out).1 k _ (rowVals_get _ _ _ hk)
theorem SR.glt (h : SR w z T tc sp s) : z.g < w.heap.size := lt_of_block h.blk
theorem SR.g_rk (h : SR w z T tc sp s) {k : Nat} (hk : k < z.n) : z.g ≠ z.rk k := by
  obtain ⟨cur, hc⟩ := OR.heap_ (h.inn k hk)
  exact type_ne h.blk hc (by decide)
theorem SR.g_mb (h : SR w z T tc sp s) : z.g ≠ z.mb := by
  obtain ⟨cur, hc⟩ := OR.heap_ h.mem
  exact type_ne h.blk hc (by decide)
theorem SR.t_g (h : SR w z T tc sp s) : Value.ownBlock (.slice T s.beats.length tc) ≠ some z.g := own_ne h.trc h.blk (by decide)
theorem SR.t_rk (h : SR w z T tc sp s) {k : Nat} (hk : k < z.n) : Value.ownBlock (.slice T s.beats.length tc) ≠ some (z.rk k) := by
  obtain ⟨cur, hc⟩ := OR.heap_ (h.inn k hk)
  exact own_ne h.trc hc (by decide)
theorem SR.t_mb (h : SR w z T tc sp s) : Value.ownBlock (.slice T s.beats.length tc) ≠ some z.mb := by
  obtain ⟨cur, hc⟩ := OR.heap_ h.mem
  exact own_ne h.trc hc (by decide)
theorem SR.t_rg (h : SR w z T tc sp s) : Value.ownBlock (.slice T s.beats.length tc) ≠ some z.rg := by
  obtain ⟨cur, hc⟩ := OR.heap_ h.out
  exact own_ne h.trc hc (by decide)

/-- One instruction of lane k. -/
theorem SR.simp (h : SR w z T tc sp s) {x : Cd} {k mn : Nat} (hk : k < z.n) (hok : SOk z.n s) (hmn : mn = s.mem.length) (hB : z.B ≤ w.heap.size)
    (hs : Simp1 w z.B (z.rk k) 4 z.mb mn z.mc x k (s.regs.getD k []) s.mem w') : SR w' z T tc sp (exec1 x s k) ∧ Stp z.B w w' := by
  subst hmn
  obtain ⟨h1, h2, h3⟩ := hs
  obtain ⟨cur, hc⟩ := OR.heap_ (h.inn k hk)
  obtain ⟨cum, hcm⟩ := OR.heap_ h.mem
  have hl := simp1_len x k (s.regs.getD k []) s.mem
  have hkl : k < s.regs.length := by rw [hok.len]; exact hk
  have hb : Below z.B w w' := h3.below (OR.block (h.inn k hk) _ rfl).1 (OR.block h.mem _ rfl).1 hB
  refine ⟨⟨?_, h.gB, ?_, ?_, ?_, ?_, h.inj, h.mne, h.lst.below hb⟩, hb, fun i cs hi => (h3.block i (lt_of_block hi) (type_ne hi hc (by decide)) (type_ne hi hcm (by decide))).trans hi⟩
  · rw [h3.block _ h.glt (h.g_rk hk) h.g_mb, h.blk]
    simp only [SW.row, exec1, hl.2]
  · exact h.out.off h3 (by
      intro e
      obtain ⟨co, ho⟩ := OR.heap_ h.out
      exact type_ne ho hc (by decide) (by injection e)) (by
      intro e
      obtain ⟨co, ho⟩ := OR.heap_ h.out
      exact type_ne ho hcm (by decide) (by injection e))
  · intro j hj
    by_cases e : j = k
    · subst e
      have : (exec1 x s j).regs.getD j [] = (simp1 x j (s.regs.getD j []) s.mem).1 := by
        simp [exec1, List.getD_eq_getElem?_getD, hkl]
      rw [this]
      exact h1
    · have : (exec1 x s k).regs.getD j [] = s.regs.getD j [] := by
        simp [exec1, List.getD_eq_getElem?_getD, List.getElem?_set_ne (fun h => e h.symm)]
      rw [this]
      refine OR.off (h.inn j hj) h3 ?_ ?_
      · intro e2; exact e (h.inj j k hj hk (by injection e2))
      · intro e2; exact h.mne j hj (by injection e2)
  · have : (exec1 x s k).mem.length = s.mem.length := hl.2
    rw [this]
    exact h2
  · exact h.trc.off h3 (h.t_rk hk) h.t_mb

/-- A store into cell 4, behind an append to the trace. -/
theorem SR.beat_ {wb w2 : World} (h : SR w z T tc sp s) (hX : Ext w wb) (hB : z.B ≤ w.heap.size) {p m : Nat} {T' : Option Addr} {tc' : Nat} (hg : wb.grownBy w2 (Value.ownBlock (.slice T s.beats.length tc)))
    (ho : OR w2 z.B 78 2 T' (s.beats.length + 1) tc' (beatCells s.beats ++ [.int .i64 p, .int .i64 m])) :
    SR (w2.setCell ⟨z.g, 4, none⟩ (.slice T' (s.beats.length + 1) tc')) z T' tc' sp (beat p m s) ∧ Stp z.B w (w2.setCell ⟨z.g, 4, none⟩ (.slice T' (s.beats.length + 1) tc')) := by
  have hwb := h.ext hX hB
  have kp : ∀ k, k < wb.heap.size → Value.ownBlock (.slice T s.beats.length tc) ≠ some k → w2.heap[k]? = wb.heap[k]? := fun k hk hne => hg.block k hk (fun e => hne e.symm)
  have hblk : w2.heap[z.g]? = some (.cells (z.row s T tc sp) 102 (0, 0)) := (kp _ hwb.glt hwb.t_g).trans hwb.blk
  have hout := OR.kept hwb.out hg (.inr fun e => hwb.t_rg e.symm)
  have hmem := OR.kept hwb.mem hg (.inr fun e => hwb.t_mb e.symm)
  have hbl : (beat p m s).beats.length = s.beats.length + 1 := by simp [beat]
  have hlst : Below z.B wb w2 := ⟨hg.os, hg.tape, hg.output, hg.size, fun k hk => kp k (by have := hX.size; omega) (fun e => by have := (OR.block hwb.trc k e).1; omega)⟩
  have hb2 : Below z.B w (w2.setCell ⟨z.g, 4, none⟩ (.slice T' (s.beats.length + 1) tc')) := (((hX.below).mono hB).trans hlst).setCell h.gB _
  have og : ∀ {e size n c : Nat} {A : Option Addr} {xs : List Value}, OR w2 z.B e size A n c xs → e ≠ 102 → OR (w2.setCell ⟨z.g, 4, none⟩ (.slice T' (s.beats.length + 1) tc')) z.B e size A n c xs := fun ho hne => OR.set_other ho (p := ⟨z.g, 4, none⟩) (own_ne ho hblk hne) _
  refine ⟨⟨?_, h.gB, og hout (by decide), fun k hk => ?_, og hmem (by decide), ?_, h.inj, h.mne, ?_⟩, hb2, fun i cs hi => ?_⟩
  · rw [heap_set_same hblk]
    simp [SW.row, hbl]
    rfl
  · exact og (OR.kept (hwb.inn k hk) hg (.inr fun e => hwb.t_rk hk e.symm)) (by decide)
  · rw [hbl]
    have e : beatCells (beat p m s).beats = beatCells s.beats ++ [.int .i64 p, .int .i64 m] := by
      show beatCells (s.beats ++ [(p, m)]) = _
      rw [beatCells_append]; rfl
    rw [e]
    exact og ho (by decide)
  · exact h.lst.below hb2
  · have hib := hX.heap_ hi
    have h2 := (kp i (lt_of_block hib) (own_ne hwb.trc hib (by decide))).trans hib
    rw [heap_set_other (type_ne h2 hblk (by decide))]
    exact h2

/-- A store of whether a barrier is split. -/
theorem SR.spl (h : SR w z T tc sp s) (hB : z.B ≤ w.heap.size) (b : Bool) : SR (w.setCell ⟨z.g, 5, none⟩ (.bool b)) z T tc b s ∧ Stp z.B w (w.setCell ⟨z.g, 5, none⟩ (.bool b)) := by
  have hb : Below z.B w (w.setCell ⟨z.g, 5, none⟩ (.bool b)) := (Below.refl _ _).setCell h.gB _
  have og : ∀ {e size n c : Nat} {A : Option Addr} {xs : List Value}, OR w z.B e size A n c xs → e ≠ 102 → OR (w.setCell ⟨z.g, 5, none⟩ (.bool b)) z.B e size A n c xs := fun ho hne => OR.set_other ho (p := ⟨z.g, 5, none⟩) (own_ne ho h.blk hne) _
  refine ⟨⟨?_, h.gB, og h.out (by decide), fun k hk => og (h.inn k hk) (by decide), og h.mem (by decide), og h.trc (by decide), h.inj, h.mne, h.lst.below hb⟩, hb, fun i cs hi => (heap_set_other (type_ne hi h.blk (by decide)) _ _).trans hi⟩
  rw [heap_set_same h.blk]
  rfl
end

def OnRel (m : Nat) (a : Int) (s : LS) (n : Nat) (ov kv : Value) : Prop :=
  ∃ k : Nat, k ≤ n ∧ kv = .int .i64 k ∧ ov = .int .i64 (onesTo m a s k)

set_option maxRecDepth 100000 in
set_option maxHeartbeats 2000000 in
theorem ones_c {w : World} {z : SW} {T : Option Addr} {tc : Nat} {sp : Bool} {s : LS} (h : SR w z T tc sp s) (hok : SOk z.n s) (m : Nat) (hm : m < 2 ^ z.n) (a : Int) (ha : 0 ≤ a ∧ a ≤ 3) :
    Calls Tryz.prog 139 #[.pointer (some ⟨z.g, 0, none⟩), .int .i64 m, .int .i64 a] w fun e w' => e = .returned (.int .i64 (onesOf m a s)) ∧ w = w' := by
  obtain ⟨a, rfl⟩ := Int.eq_ofNat_of_zero_le ha.1
  have a3 : a ≤ 3 := by omega
  have n8 := hok.n8
  obtain ⟨c0, c1, c2, c3, c4, c5, c6⟩ := h.cells
  have HO := Lib.hid (onesOf_n hm n8 (a : Int) s)
  have m256 : m < 2 ^ 8 := Nat.lt_of_lt_of_le hm (Nat.pow_le_pow_right (by decide) n8)
  have m256' : m < 256 := by omega
  clear c0 c3 c4 c5 c6 hm m256
  go_enter Tryz.func139, Tryz.ntmps139
  go_wp2
  go_loop [7, 8] (fun ov kv => OnRel m a s z.n ov kv) (fun _ kv => z.n - (intOf kv).toNat)
  case atStart => exact ⟨0, Nat.zero_le _, rfl, rfl⟩
  case round =>
    obtain ⟨k, hk, rfl, rfl⟩ := hrel
    by_cases hlt : k < z.n
    · have hrow := h.rowAt hlt
      have hr4 := hok.get hlt
      have hreg := (OI.at0 (h.inn k hlt)).1 a _ (rg_get hr4.1 a3)
      have hbt := bit_tm m k
      have hon := onesTo_lt m a s k
      have hpw : 2 ^ k ≤ 2 ^ 7 := Nat.pow_le_pow_right (by decide) (by omega)
      have hto : onesTo m a s (k + 1) = if m.testBit k && !(rg (s.regs.getD k []) (a : Int) == 0) then onesTo m a s k ||| 2 ^ k else onesTo m a s k := rfl
      have HT := Lib.hid hto
      generalize onesTo m a s k = u at *
      have hu : u < 128 := by omega
      clear hto hr4 hpw hon
      generalize rg (s.regs.getD k []) (a : Int) = v at hreg HT
      cases hb : m.testBit k with
      | false =>
        rw [hb] at hbt
        have HB := Lib.hid hb
        clear hb
        go_wp2
        go_round
        case rel => exact ⟨k + 1, by omega, by go_num, by rw [HT.out, HB.out]; rfl⟩
        case measure => simp [intOf]; omega
      | true =>
        rw [hb] at hbt
        have HB := Lib.hid hb
        clear hb
        cases hz : v == 0 with
        | true =>
          have hn : (v != 0) = false := by simp [bne, hz]
          have HZ := Lib.hid hz
          clear hz
          go_wp2
          go_round
          case rel => exact ⟨k + 1, by omega, by go_num, by rw [HT.out, HB.out, HZ.out]; rfl⟩
          case measure => simp [intOf]; omega
        | false =>
          have hn : (v != 0) = true := by simp [bne, hz]
          have HZ := Lib.hid hz
          clear hz
          go_wp2
          go_round
          case rel => exact ⟨k + 1, by omega, by go_num, by rw [HT.out, HB.out, HZ.out, or_bit _ _ (by omega) (by omega)]; rfl⟩
          case measure => simp [intOf]; omega
    · obtain rfl : k = z.n := by omega
      go_wp2
      go_ret
      exact ⟨reti (by rw [HO.out]), rfl⟩

end Go.Proofs.YtelbfeidpcojmaaGreat
