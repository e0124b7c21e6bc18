/- The reference's CodeValid. -/
import Derived.Test.YtfgbbajkdpideaaMem
import Derived.Test.YtfgbbajkdpideaaCodes
namespace Go.Proofs.Ytfgbbajkdpideaa
open Go.RowKit
set_option linter.unusedVariables false
set_option linter.unusedSimpArgs false

set_option maxRecDepth 100000 in
set_option maxHeartbeats 2000000 in
theorem sCodeValid_c (x : Cd) (w : World) :
    Calls Try.prog 41 #[x.val] w fun e w' => e = .returned (.bool (cvOk x)) ∧ Below w.heap.size w w' := by
  obtain ⟨o, a, b, c⟩ := x
  unfold Cd.val
  go_enter Try.func41, Try.ntmps41
  go_wp2_with (first | (go_at_call 51; refine (l1In_c _ _ _ _).mono ?_; rintro e w' ⟨rfl, rfl⟩) | (go_at_call 53; refine (l2Word_c _ _).mono ?_; rintro e w' ⟨rfl, rfl⟩))
  all_goals go_ret
  all_goals refine ⟨retb ?_, (Below.refl _ _).alloc (Nat.le_refl _) _⟩
  all_goals (unfold cvOk; simp_all; done)

theorem pvRun_take {l : List Cd} {k : Nat} {x : Cd} {st st' : List Int} (hx : l[k]? = some x) (h : pvRun [] (l.take k) = some st) (hs : pvStep st x = some st') : pvRun [] (l.take (k + 1)) = some st' := by
  obtain ⟨hk, rfl⟩ := List.getElem?_eq_some_iff.1 hx
  rw [List.take_succ_eq_append_getElem hk, pvRun_append, h]
  simp [pvRun, hs]
theorem pv_fail {l : List Cd} {k : Nat} {x : Cd} {st : List Int} (hx : l[k]? = some x) (h : pvRun [] (l.take k) = some st) (hs : pvStep st x = none) : pv l = false := by
  obtain ⟨hk, rfl⟩ := List.getElem?_eq_some_iff.1 hx
  have e : pvRun [] l = none := by
    conv => lhs; rw [← List.take_append_drop k l]
    rw [pvRun_append, h, List.drop_eq_getElem_cons hk]
    simp [pvRun, hs]
  simp [pv, e]

theorem step_bad {st : List Int} {x : Cd} (h : cvOk x = false) : pvStep st x = none := by simp [pvStep, h]
theorem step_open {st : List Int} {x : Cd} (h : cvOk x = true) (ho : x.op = 11 ∨ x.op = 13) : pvStep st x = if st.length < 3 then some (x.op :: st) else none := by
  rcases ho with ho | ho <;> simp [pvStep, h, ho]
theorem step_else {m : Int} {t : List Int} {x : Cd} (h : cvOk x = true) (ho : x.op = 12) : pvStep (m :: t) x = if m = 11 then some (12 :: t) else none := by
  simp [pvStep, h, ho]
theorem step_else0 {x : Cd} (h : cvOk x = true) (ho : x.op = 12) : pvStep [] x = none := by simp [pvStep, h, ho]
theorem step_end {m : Int} {t : List Int} {x : Cd} (h : cvOk x = true) (ho : x.op = 14) : pvStep (m :: t) x = some t := by simp [pvStep, h, ho]
theorem step_end0 {x : Cd} (h : cvOk x = true) (ho : x.op = 14) : pvStep [] x = none := by simp [pvStep, h, ho]
theorem step_same {st : List Int} {x : Cd} (h : cvOk x = true) (h1 : x.op ≠ 11) (h2 : x.op ≠ 13) (h3 : x.op ≠ 12) (h4 : x.op ≠ 14) : pvStep st x = some st := by simp [pvStep, h, h1, h2, h3, h4]

theorem OR.cap_ {w : World} {base e size n c : Nat} {A : Option Addr} {xs : List Value} (h : OR w base e size A n c xs) : n ≤ c := by
  rcases h.2 with ⟨hv, rfl⟩ | ⟨g, cap, cur, hv, _, _, hnc, _⟩
  · exact Nat.zero_le _
  · injection hv with _ _ hc
    omega
theorem below_app {B base e size n c : Nat} {A : Option Addr} {xs : List Value} {w0 w1 w2 : World} {o : Obj} (hb : Below B w0 w1) (hB : B ≤ w1.heap.size) (ho : OR w1 base e size A n c xs) (hbase : B ≤ base)
    (hg : (w1.alloc o).grownBy w2 (Value.ownBlock (.slice A n c))) : Below B w0 w2 :=
  (hb.alloc hB o).grown hg (by simp; omega) (fun k h => Nat.le_trans hbase (ho.block k h).1)

/-- The relation of the loop. -/
def SVRel (w : World) (l : List Cd) (op i : Value) (wr : World) : Prop :=
  ∃ (k : Nat) (A : Option Addr) (st : List Int) (c : Nat), k ≤ l.length ∧ i = .int .i64 k ∧ op = .slice A st.length c ∧ OI wr w.heap.size A st.length c st.reverse ∧
    Hid (pvRun [] (l.take k) = some st) ∧ st.length ≤ 3 ∧ Below w.heap.size w wr

set_option maxRecDepth 100000 in
set_option maxHeartbeats 2000000 in
theorem sProgramValid_c (A : Option Addr) (c : Nat) (l : List Cd) (w : World) (hA : RdC w w.heap.size A l) (hl : l.length ≤ 1000000000) :
    Calls Try.prog 24 #[.slice A l.length c] w fun e w' => e = .returned (.bool (pv l)) ∧ Below w.heap.size w w' := by
  go_enter Try.func24, Try.ntmps24
  go_wp2
  go_loopw [3, 4] (fun op i wr => SVRel w l op i wr) (fun _ i _ => l.length - (intOf i).toNat)
  case atStart => exact ⟨0, _, [], 0, Nat.zero_le _, rfl, rfl, OR.lit w _ _ 1 0 #[] (Nat.le_refl _) (by omega) rfl, rfl, by simp, (by repeat (first | exact Below.refl _ _ | assumption | refine Below.alloc ?_ (by simp <;> omega) _ | refine Below.setCell ?_ (by simp <;> omega) _ | refine Below.drew ?_))⟩
  case round =>
    obtain ⟨k, A1, st, c1, hk, rfl, rfl, ho, HP, hs3, hb⟩ := hrel
    by_cases hlt : k < l.length
    · obtain ⟨b, off, x, rfl, hbB, hx, c0, c1', c2, c3⟩ := (hA.below hb).at_ hlt
      have HX := Lib.hid hx
      clear hx
      go_wp2_with fail
      refine (sCodeValid_c x _).mono ?_
      rintro e w1 ⟨rfl, hb1⟩
      have hb2 := below_trans hb (Nat.le_refl _) hb1
      have ho1 := ho.below hb1 (Nat.le_refl _)
      replace c0 := cell_kept hb1 c0
      clear c1' c2 c3
      cases hv : cvOk x with
      | false =>
        go_wp2
        go_ret
        exact ⟨retb (pv_fail HX.out HP.out (step_bad hv)).symm, hb2⟩
      | true =>
        by_cases h11 : x.op = 11 ∨ x.op = 13
        · have hstep := step_open (st := st) hv h11
          by_cases h3 : st.length < 3
          · rw [if_pos h3] at hstep
            have HS := Lib.hid hstep
            clear hstep
            rcases h11 with h | h
            all_goals
              first | have e11 : (x.op == 11) = true := by simp [h] | have e11 : (x.op == 11) = false := by simp [h]
              first | have e13 : (x.op == 13) = true := by simp [h] | have e13 : (x.op == 13) = false := by simp [h]
              have h4 : ¬ 3 < st.length + 1 := by omega
              clear h
              go_wp2_with (at_builtin; refine app_int rfl _ _ rfl w.heap.size _ _ _ _ (ho1.alloc _) rfl x.op w1.heap.size 1 rfl ?hc ?hn ?hbase ?_)
              case hc => simp
              case hn => omega
              case hbase => have := hb2.size; simp; omega
              intro A' c' w2 ho2 hg2
              go_wp2
              go_roundw
              case rel => exact ⟨k + 1, A', x.op :: st, c', by omega, by go_num, rfl, by simpa using ho2, Lib.hid (pvRun_take HX.out HP.out HS.out), by simp; omega, below_app hb2 (Nat.le_trans hb.size hb1.size) ho1 (Nat.le_refl _) hg2⟩
              case measure => simp [intOf]; omega
          · rw [if_neg h3] at hstep
            have HS := Lib.hid hstep
            clear hstep
            rcases h11 with h | h
            all_goals
              first | have e11 : (x.op == 11) = true := by simp [h] | have e11 : (x.op == 11) = false := by simp [h]
              first | have e13 : (x.op == 13) = true := by simp [h] | have e13 : (x.op == 13) = false := by simp [h]
              have h4 : 3 < st.length + 1 := by omega
              clear h
              go_wp2_with (at_builtin; refine app_int rfl _ _ rfl w.heap.size _ _ _ _ (ho1.alloc _) rfl x.op w1.heap.size 1 rfl ?hc ?hn ?hbase ?_)
              case hc => simp
              case hn => omega
              case hbase => have := hb2.size; simp; omega
              intro A' c' w2 ho2 hg2
              go_wp2
              go_ret
              exact ⟨retb (pv_fail HX.out HP.out HS.out).symm, below_app hb2 (Nat.le_trans hb.size hb1.size) ho1 (Nat.le_refl _) hg2⟩
        · have n11 : x.op ≠ 11 := fun h => h11 (.inl h)
          have n13 : x.op ≠ 13 := fun h => h11 (.inr h)
          have e11 : (x.op == 11) = false := beq_eq_false_iff_ne.2 n11
          have e13 : (x.op == 13) = false := beq_eq_false_iff_ne.2 n13
          clear h11
          by_cases h12 : x.op = 12
          · have e12 : (x.op == 12) = true := beq_iff_eq.2 h12
            cases st with
            | nil =>
              have HS := Lib.hid (step_else0 hv h12)
              clear h12 n11 n13
              go_wp2
              go_ret
              exact ⟨retb (pv_fail HX.out HP.out HS.out).symm, hb2⟩
            | cons m st =>
              have hstep := step_else (m := m) (t := st) hv h12
              obtain ⟨g, rfl, hg1, hg2, hcell, hfr, hset⟩ := ho1.at_ (by simp)
              have hm := hcell st.length (.int .i64 m) (by simp)
              have hf := hfr st.length
              have hs := hset st.length (.int .i64 12)
              have HL := Lib.hid hcell
              clear hcell hfr hset h12 n11 n13
              by_cases hm11 : m = 11
              · rw [if_pos hm11] at hstep
                have HS := Lib.hid hstep
                have em : (m != 11) = false := by simp [hm11]
                clear hstep hm11
                have h4 : ¬ 3 < st.length + 1 := by simp at hs3; omega
                go_wp2
                go_roundw
                case rel =>
                  refine ⟨k + 1, _, 12 :: st, _, by omega, by go_num, rfl, ?_, Lib.hid (pvRun_take HX.out HP.out HS.out), by simp at hs3 ⊢; omega, hb2.setCell hg1 _⟩
                  have e : ((m :: st).reverse.map (Value.int .i64)).set st.length (.int .i64 12) = (12 :: st).reverse.map (Value.int .i64) := by
                    rw [List.reverse_cons, List.map_append, List.set_append_right (h := by simp)]
                    simp
                  rw [e] at hs
                  exact hs
                case measure => simp [intOf]; omega
              · rw [if_neg hm11] at hstep
                have HS := Lib.hid hstep
                have em : (m != 11) = true := by simp [hm11]
                clear hstep hm11
                go_wp2
                go_ret
                exact ⟨retb (pv_fail HX.out HP.out HS.out).symm, hb2⟩
          · have e12 : (x.op == 12) = false := beq_eq_false_iff_ne.2 h12
            by_cases h14 : x.op = 14
            · have e14 : (x.op == 14) = true := beq_iff_eq.2 h14
              cases st with
              | nil =>
                have HS := Lib.hid (step_end0 hv h14)
                clear h12 n11 n13 h14
                go_wp2
                go_ret
                exact ⟨retb (pv_fail HX.out HP.out HS.out).symm, hb2⟩
              | cons m st =>
                have HS := Lib.hid (step_end (m := m) (t := st) hv h14)
                have ht := ho1.take_ (m := st.length) (by simp)
                clear h12 n11 n13 h14
                have h4 : ¬ 3 < st.length := by simp at hs3; omega
                have h5 : st.length ≤ c1 := by have := ho1.cap_; simp at this; omega
                go_wp2
                go_roundw
                case rel =>
                  refine ⟨k + 1, _, st, _, by omega, by go_num, rfl, ?_, Lib.hid (pvRun_take HX.out HP.out HS.out), by omega, hb2⟩
                  have e : ((m :: st).reverse.map (Value.int .i64)).take (st.length * 1) = st.reverse.map (Value.int .i64) := by
                    rw [List.reverse_cons, List.map_append, List.take_append_of_le_length (by simp), List.take_of_length_le (by simp)]
                  rw [e] at ht
                  exact ht
                case measure => simp [intOf]; omega
            · have e14 : (x.op == 14) = false := beq_eq_false_iff_ne.2 h14
              have HS := Lib.hid (step_same (st := st) hv n11 n13 h12 h14)
              have h4 : ¬ 3 < st.length := by omega
              clear h12 n11 n13 h14
              go_wp2
              go_roundw
              case rel => exact ⟨k + 1, _, st, _, by omega, by go_num, rfl, ho1, Lib.hid (pvRun_take HX.out HP.out HS.out), hs3, hb2⟩
              case measure => simp [intOf]; omega
    · obtain rfl : k = l.length := by omega
      have hp := HP.out
      rw [List.take_length] at hp
      have HQ := Lib.hid hp
      clear hp
      go_wp2_with fail
      all_goals go_ret
      all_goals refine ⟨retb ?_, hb⟩
      all_goals (unfold pv; rw [HQ.out])
      · have h : st = [] := by assumption
        subst h
        simp only [Bool.and_true]
        exact decide_eq_decide.2 (by omega)
      · have h : ¬ st = [] := by assumption
        cases st with
        | nil => exact absurd rfl h
        | cons m st => simp

def chk (o : Int) (i : Nat) (n : Int) : Bool :=
  if (i : Int) < regsN o then inR n 0 3 else if i == 1 && o == 1 then inR n 0 255 else if i == 1 && o == 13 then inR n 1 4 else n == 0

theorem chk_all (x : Cd) : (chk x.op 0 x.a && (chk x.op 1 x.b && (chk x.op 2 x.c && inR x.op 1 14))) = cvOk x := by
  rcases x with ⟨o, a, b, c⟩
  simp only
  by_cases h : 1 ≤ o ∧ o ≤ 14
  · obtain ⟨h1, h2⟩ := h
    have : o = 1 ∨ o = 2 ∨ o = 3 ∨ o = 4 ∨ o = 5 ∨ o = 6 ∨ o = 7 ∨ o = 8 ∨ o = 9 ∨ o = 10 ∨ o = 11 ∨ o = 12 ∨ o = 13 ∨ o = 14 := by omega
    rcases this with rfl | rfl | rfl | rfl | rfl | rfl | rfl | rfl | rfl | rfl | rfl | rfl | rfl | rfl <;> simp [chk, regsN, cvOk, inR, Bool.and_assoc]
  · have e : ∀ k : Int, 1 ≤ k → k ≤ 14 → (o == k) = false := fun k a b => by rw [beq_eq_false_iff_ne]; omega
    have e2 : inR o 1 14 = false := by rw [inR_not]; omega
    simp [chk, regsN, cvOk, e, e2]

def numAt (a b c : Int) (k : Nat) : Int := if k = 0 then a else if k = 1 then b else c

set_option maxRecDepth 100000 in
set_option maxHeartbeats 2000000 in
theorem iCodeValid_c (x : Cd) (w : World) :
    Calls Try.prog 39 #[x.val] w fun e w' => e = .returned (.bool (cvOk x)) ∧ Below w.heap.size w w' := by
  have HC := Lib.hid (chk_all x)
  obtain ⟨o, a, b, c⟩ := x
  unfold Cd.val
  go_enter Try.func39, Try.ntmps39
  go_wp2
  have hb0 : Below w.heap.size w ((w.alloc (.cells #[.int .i64 o, .int .i64 a, .int .i64 b, .int .i64 c] 50)).alloc (.cells #[.int .i64 a, .int .i64 b, .int .i64 c] 3)) := (by repeat (first | exact Below.refl _ _ | assumption | refine Below.alloc ?_ (by simp <;> omega) _ | refine Below.setCell ?_ (by simp <;> omega) _ | refine Below.drew ?_))
  have hop : ((w.alloc (.cells #[.int .i64 o, .int .i64 a, .int .i64 b, .int .i64 c] 50)).alloc (.cells #[.int .i64 a, .int .i64 b, .int .i64 c] 3)).cell? ⟨w.heap.size, 0, none⟩ = some (.int .i64 o) := by simp [go_sem]
  have hn : ∀ k, k < 3 → ((w.alloc (.cells #[.int .i64 o, .int .i64 a, .int .i64 b, .int .i64 c] 50)).alloc (.cells #[.int .i64 a, .int .i64 b, .int .i64 c] 3)).cell? ⟨w.heap.size + 1, k, none⟩ = some (.int .i64 (numAt a b c k)) := by
    intro k hk
    have : k = 0 ∨ k = 1 ∨ k = 2 := by omega
    rcases this with rfl | rfl | rfl <;> simp [go_sem, numAt]
  generalize (w.alloc (.cells #[.int .i64 o, .int .i64 a, .int .i64 b, .int .i64 c] 50)).alloc (.cells #[.int .i64 a, .int .i64 b, .int .i64 c] 3) = w1 at *
  have HN := Lib.hid hn
  clear hn
  go_loop [15] (fun i => ∃ k : Nat, k ≤ 3 ∧ i = .int .i64 k ∧ Hid (∀ j, j < k → chk o j (numAt a b c j) = true)) (fun i => 3 - (intOf i).toNat)
  case atStart => exact ⟨0, by omega, rfl, fun j hj => by omega⟩
  case round =>
    obtain ⟨k, hk, rfl, HP⟩ := hrel
    by_cases hlt : k < 3
    · have h3 : k = 0 ∨ k = 1 ∨ k = 2 := by omega
      clear hk hlt
      rcases h3 with rfl | rfl | rfl
      case inl =>
        have hc := HN.out 0 (by omega)
        have hz : numAt a b c 0 = a := rfl
        rw [hz] at hc
        have HZ := Lib.hid hz
        clear hz
        go_wp2_with (first | (go_at_call 54; refine (registers_c _ _).mono ?_; rintro e w' ⟨rfl, rfl⟩) | (go_at_call 55; refine (isReg_c _ _).mono ?_; rintro e w' ⟨rfl, rfl⟩) | (go_at_call 56; refine (isWord_c _ _).mono ?_; rintro e w' ⟨rfl, rfl⟩) | (go_at_call 33; refine (within_c _ _ _ _).mono ?_; rintro e w' ⟨rfl, rfl⟩))
        all_goals
          first
            | (go_ret
               have hf : chk o 0 a = false := by (unfold chk; first | (rw [if_pos (by omega)]; simp_all; done) | (rw [if_neg (by omega)]; simp_all; done))
               have hx := HC.out
               simp only [hf] at hx
               exact ⟨retb (by simpa using hx), hb0⟩)
            | (have hf : chk o 0 a = true := by (unfold chk; first | (rw [if_pos (by omega)]; simp_all; done) | (rw [if_neg (by omega)]; simp_all; done))
               go_round
               case rel => exact ⟨1, by omega, by go_num, fun j hj => by obtain rfl : j = 0 := (by omega); rw [HZ.out]; exact hf⟩
               case measure => simp [intOf])
      case inr.inl =>
        have hc := HN.out 1 (by omega)
        have hz : numAt a b c 1 = b := rfl
        rw [hz] at hc
        have HZ := Lib.hid hz
        clear hz
        go_wp2_with (first | (go_at_call 54; refine (registers_c _ _).mono ?_; rintro e w' ⟨rfl, rfl⟩) | (go_at_call 55; refine (isReg_c _ _).mono ?_; rintro e w' ⟨rfl, rfl⟩) | (go_at_call 56; refine (isWord_c _ _).mono ?_; rintro e w' ⟨rfl, rfl⟩) | (go_at_call 33; refine (within_c _ _ _ _).mono ?_; rintro e w' ⟨rfl, rfl⟩))
        all_goals
          first
            | (go_ret
               have hf : chk o 1 b = false := by (unfold chk; first | (rw [if_pos (by omega)]; simp_all; done) | (rw [if_neg (by omega)]; simp_all; done))
               have hx := HC.out
               simp only [hf] at hx
               exact ⟨retb (by simpa using hx), hb0⟩)
            | (have hf : chk o 1 b = true := by (unfold chk; first | (rw [if_pos (by omega)]; simp_all; done) | (rw [if_neg (by omega)]; simp_all; done))
               go_round
               case rel => exact ⟨2, by omega, by go_num, fun j hj => by
                 by_cases hj0 : j = 0
                 · subst hj0; exact HP.out 0 (by omega)
                 · obtain rfl : j = 1 := by omega
                   rw [HZ.out]; exact hf⟩
               case measure => simp [intOf])
      case inr.inr =>
        have hc := HN.out 2 (by omega)
        have hz : numAt a b c 2 = c := rfl
        rw [hz] at hc
        have HZ := Lib.hid hz
        clear hz
        go_wp2_with (first | (go_at_call 54; refine (registers_c _ _).mono ?_; rintro e w' ⟨rfl, rfl⟩) | (go_at_call 55; refine (isReg_c _ _).mono ?_; rintro e w' ⟨rfl, rfl⟩) | (go_at_call 56; refine (isWord_c _ _).mono ?_; rintro e w' ⟨rfl, rfl⟩) | (go_at_call 33; refine (within_c _ _ _ _).mono ?_; rintro e w' ⟨rfl, rfl⟩))
        all_goals
          first
            | (go_ret
               have hf : chk o 2 c = false := by (unfold chk; first | (rw [if_pos (by omega)]; simp_all; done) | (rw [if_neg (by omega)]; simp_all; done))
               have hx := HC.out
               simp only [hf] at hx
               exact ⟨retb (by simpa using hx), hb0⟩)
            | (have hf : chk o 2 c = true := by (unfold chk; first | (rw [if_pos (by omega)]; simp_all; done) | (rw [if_neg (by omega)]; simp_all; done))
               go_round
               case rel => exact ⟨3, by omega, by go_num, fun j hj => by
                 by_cases hj0 : j = 2
                 · subst hj0
                   rw [HZ.out]; exact hf
                 · exact HP.out j (by omega)⟩
               case measure => simp [intOf])
    · obtain rfl : k = 3 := by omega
      go_wp2_with (go_at_call 33; refine (within_c _ _ _ _).mono ?_; rintro e w' ⟨rfl, rfl⟩)
      go_ret
      have h0 := HP.out 0 (by omega)
      have h1 := HP.out 1 (by omega)
      have h2 := HP.out 2 (by omega)
      have hx := HC.out
      simp [numAt] at h0 h1 h2
      simp only [h0, h1, h2, Bool.true_and] at hx
      exact ⟨retb hx, hb0⟩

end Go.Proofs.Ytfgbbajkdpideaa
