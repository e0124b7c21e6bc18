/- Launch of both packages. -/
import Derived.Test.YtakeacndmnnbmaaGreatAccs
import Derived.Test.YtakeacndmnnbmaaGreatWatch0
import Derived.Test.YtakeacndmnnbmaaGreatRunO
import Derived.Test.YtakeacndmnnbmaaGreatOpt
import Derived.StillTailTactics
import Derived.Test.YtakeacndmnnbmaaGreatAccLaw
import Derived.Test.YtakeacndmnnbmaaGreatOptLaw
import Derived.Test.YtakeacndmnnbmaaGreatNames1
namespace Go.Proofs.YtakeacndmnnbmaaGreat
open Go.RowKit
set_option linter.unusedVariables false
set_option linter.unusedSimpArgs false

set_option maxRecDepth 100000 in
set_option maxHeartbeats 4000000 in
theorem sclash_c (aw ac bw bc ap bp : Int) (ar br : Bool) (w : World) :
    Calls Tryz.prog 103 #[.agg #[.int .i64 aw, .int .i64 ac, .bool ar, .int .i64 ap], .agg #[.int .i64 bw, .int .i64 bc, .bool br, .int .i64 bp]] w fun e w' => e = .returned (.bool (clashI aw ac bw bc ap bp ar br)) ∧ Below w.heap.size w w' := by
  have HC := Lib.hid (show clashI aw ac bw bc ap bp ar br = ((ap == bp) && (aw != bw) && (ac == bc) && (ar || br)) from rfl)
  obtain ⟨x1, h1⟩ : ∃ x, (ap == bp) = x := ⟨_, rfl⟩
  obtain ⟨x2, h2⟩ : ∃ x, (aw != bw) = x := ⟨_, rfl⟩
  obtain ⟨x3, h3⟩ : ∃ x, (ac == bc) = x := ⟨_, rfl⟩
  rw [h1, h2, h3] at HC
  have hbw : Below w.heap.size w ((w.alloc (.cells #[.int .i64 aw, .int .i64 ac, .bool ar, .int .i64 ap] 118)).alloc (.cells #[.int .i64 bw, .int .i64 bc, .bool br, .int .i64 bp] 118)) := (by repeat (first | exact Below.refl _ _ | assumption | refine Below.alloc ?_ (by simp <;> omega) _ | refine Below.setCell ?_ (by simp <;> omega) _ | refine Below.drew ?_))
  cases x1 <;> cases x2 <;> cases x3 <;> cases ar <;> (
    go_enter Tryz.func103, Tryz.ntmps103
    go_wp2
    go_ret
    exact ⟨by rw [HC.out]; rfl, hbw⟩)

set_option maxRecDepth 100000 in
set_option maxHeartbeats 4000000 in
theorem sFirstRace_c (A : Option Addr) (c : Nat) (l : List Acc) (w : World) (hA : RdQ w w.heap.size A l) (hl : l.length ≤ 1000000000) :
    Calls Tryz.prog 82 #[.slice A l.length c] w fun e w' => ∃ i k : Int, e = .returned (.tuple #[.int .i64 i, .int .i64 k, .bool (raceB l)]) ∧ Below w.heap.size w w' := by
  go_enter Tryz.func82, Tryz.ntmps82
  go_wp2
  go_loopw [5] (fun kv wr => ∃ k : Nat, k ≤ l.length ∧ kv = .int .i64 k ∧ Below w.heap.size w wr ∧ Hid (∀ j i, j < k → i < j → ¬ clashAt l i j)) (fun kv _ => l.length - (intOf kv).toNat)
  case atStart => exact ⟨0, Nat.zero_le _, rfl, Below.refl _ _, Lib.hid (fun j i h => by omega)⟩
  case round =>
    obtain ⟨k, hk, rfl, hb, hno⟩ := hrel
    by_cases hlt : k < l.length
    · obtain ⟨b, off, x, rfl, hbB, hx, -, -, -, -⟩ := (hA.below hb).at_ hlt
      have hkI : (k : Int) < (l.length : Int) := by omega
      have HX := Lib.hid hx
      clear hx
      go_wp2
      obtain ⟨w0, hw0⟩ : ∃ z, z = wr := ⟨wr, rfl⟩
      subst hw0
      go_loopw [6] (fun iv wi => ∃ i : Nat, i ≤ k ∧ iv = .int .i64 i ∧ Below w0.heap.size w0 wi ∧ Hid (∀ j, j < i → ¬ clashAt l j k)) (fun iv _ => k - (intOf iv).toNat)
      case atStart => exact ⟨0, Nat.zero_le _, rfl, Below.refl _ _, Lib.hid (fun j h => by omega)⟩
      case round =>
        obtain ⟨i, hi, rfl, hbi, hni⟩ := hrel
        have hbi2 := below_trans hb (Nat.le_refl _) hbi
        by_cases hik : i < k
        · have hil : i < l.length := by omega
          have hy : l[i]? = some (l[i]) := List.getElem?_eq_getElem hil
          generalize l[i] = y at hy
          obtain ⟨-, e0, e1, e2, e3⟩ := (hA.below hbi2).sub hy rfl
          obtain ⟨-, d0, d1, d2, d3⟩ := (hA.below hbi2).sub HX.out rfl
          have hikI : (i : Int) < (k : Int) := by omega
          have HY := Lib.hid hy
          have HCL := Lib.hid (show clashI y.who y.cell x.who x.cell y.ph x.ph y.wr x.wr = clashA y x from rfl)
          clear hy
          go_wp2_with fail
          go_still_tail 8, (by kernel_rfl)
          go_wp2_with fail
          refine (sclash_c y.who y.cell x.who x.cell y.ph x.ph y.wr x.wr _).mono ?_
          rintro e w5 ⟨rfl, hb5⟩
          rw [HCL.out]
          have hb7 := below_trans hbi.drew (Nat.le_refl _) hb5
          cases hcl : clashA y x with
          | true =>
            have HR := Lib.hid (race_yes hik HY.out HX.out hcl)
            clear hcl
            go_wp2
            go_ret3
            rw [HR.out]
            exact ⟨_, _, rfl, below_trans hb (Nat.le_refl _) hb7⟩
          | false =>
            have HN := Lib.hid (show ∀ j, j < i + 1 → ¬ clashAt l j k from fun j hj => by
              by_cases e : j = i
              · subst e
                rintro ⟨a, b, ha, hb, hh⟩
                rw [HY.out] at ha
                rw [HX.out] at hb
                injection ha with ha
                injection hb with hb
                subst ha hb
                rw [hcl] at hh
                cases hh
              · exact hni.out j (by omega))
            clear hcl
            go_wp2
            go_roundw
            case rel => exact ⟨i + 1, by omega, by go_num, hb7, HN⟩
            case measure => simp [intOf]; omega
        · obtain rfl : i = k := by omega
          go_wp2
          go_roundw
          case rel => exact ⟨i + 1, by omega, by go_num, hbi2, Lib.hid (fun j i' hj hi' => by
            by_cases e : j = i
            · subst e; exact hni.out i' hi'
            · exact hno.out j i' (by omega) hi')⟩
          case measure => simp [intOf]; omega
    · obtain rfl : k = l.length := by omega
      have HR := Lib.hid (race_no (fun k i h1 h2 => hno.out k i h1 h2))
      go_wp2
      go_ret3
      rw [HR.out]
      exact ⟨_, _, rfl, hb⟩

theorem accsOf_len' (l : List Cd) (n : Int) (m : List Int) : (accsOf l n m).length ≤ 20480 := by
  unfold accsOf
  split
  · rename_i h
    exact lockAccs_len h
  · simp

set_option maxRecDepth 100000 in
set_option maxHeartbeats 4000000 in
theorem sRaceFree_c (A Am : Option Addr) (ca cm : Nat) (l : List Cd) (n : Int) (m : List Int) (w : World) (hA : RdC w w.heap.size A l) (hM : RdI w w.heap.size Am m) (hl : l.length ≤ 1000000000) (hml : m.length ≤ 1000000000) :
    Calls Tryz.prog 56 #[.slice A l.length ca, .int .i64 n, .slice Am m.length cm] w fun e w' => e = .returned (.bool (lockOk l n m && !raceB (accsOf l n m))) ∧ Below w.heap.size w w' := by
  have hal := accsOf_len' l n m
  have HSA := Lib.hid (fun W a b => sLockAccesses_c A Am ca cm l n m W a b hl hml)
  have HOK := Lib.hid (fun W a b => sl8Ok_c A Am ca cm l n m W a b hl hml)
  generalize accsOf l n m = qs at *
  generalize lockOk l n m = ok at *
  have HFR := Lib.hid (fun U uc W h h2 => sFirstRace_c U uc qs W h h2)
  generalize raceB qs = rb at *
  go_enter Tryz.func56, Tryz.ntmps56
  go_wp2_with fail
  refine (HOK.out w hA hM).mono ?_
  rintro e w1 ⟨rfl, hb1⟩
  cases ok with
  | false =>
    go_wp2
    go_ret
    exact ⟨rfl, hb1⟩
  | true =>
    go_wp2_with fail
    refine (HSA.out w1 ((hA.below hb1).more hb1.size) ((hM.below hb1).more hb1.size)).mono ?_
    rintro e w2 ⟨U, uc, rfl, hq, hb2⟩
    have hb3 := below_trans hb1 (Nat.le_refl _) hb2
    go_wp2_with fail
    refine (HFR.out U uc w2 hq (by omega)).mono ?_
    rintro e w3 ⟨i, k, rfl, hb4⟩
    have hb5 := below_trans hb3 (Nat.le_refl _) hb4
    go_wp2
    go_ret
    exact ⟨rfl, hb5⟩

set_option maxRecDepth 100000 in
set_option maxHeartbeats 4000000 in
theorem sReason_c (A Am : Option Addr) (ca cm : Nat) (l : List Cd) (n : Int) (m : List Int) (w : World) (hA : RdC w w.heap.size A l) (hM : RdI w w.heap.size Am m) (hl : l.length ≤ 1000000000) (hml : m.length ≤ 1000000000) :
    Calls Tryz.prog 31 #[.slice A l.length ca, .int .i64 n, .slice Am m.length cm] w fun e w' => e = .returned (.int .i64 (reasonOf l n m)) ∧ Below w.heap.size w w' := by
  have HR := Lib.hid (show reasonOf l n m = if lockOk l n m then (if !wholeOf l n m then 2 else if raceB (accsOf l n m) then 3 else 0) else 1 by
    unfold reasonOf wholeOf
    cases lockOk l n m with
    | false => rfl
    | true => simp)
  have HF := Lib.hid (fun W a b => sRaceFree_c A Am ca cm l n m W a b hl hml)
  have HO := Lib.hid (fun W a b => sl8Ok_c A Am ca cm l n m W a b hl hml)
  have HRO := Lib.hid (fun W a b => sRunLockO_c A Am ca cm l n m W a b hl hml)
  generalize wholeOf l n m = wh at *
  generalize lockOk l n m = ok at *
  generalize raceB (accsOf l n m) = rb at *
  generalize reasonOf l n m = rs at *
  go_enter Tryz.func31, Tryz.ntmps31
  go_wp2_with fail
  refine (HRO.out w hA hM).mono ?_
  rintro e w1 ⟨M, c, rfl, -, hb1⟩
  go_wp2_with fail
  refine (HO.out w1 ((hA.below hb1).more hb1.size) ((hM.below hb1).more hb1.size)).mono ?_
  rintro e w2 ⟨rfl, hb2⟩
  replace hb2 := below_trans hb1 (Nat.le_refl _) hb2
  cases ok with
  | false =>
    go_wp2
    go_ret
    exact ⟨reti (by rw [HR.out]; rfl), hb2⟩
  | true =>
    cases wh with
    | false =>
      go_wp2
      go_ret
      exact ⟨reti (by rw [HR.out]; rfl), hb2⟩
    | true =>
      go_wp2_with fail
      refine (HF.out w2 ((hA.below hb2).more hb2.size) ((hM.below hb2).more hb2.size)).mono ?_
      rintro e w3 ⟨rfl, hb3⟩
      replace hb3 := below_trans hb2 (Nat.le_refl _) hb3
      cases rb with
      | true =>
        go_wp2
        go_ret
        exact ⟨reti (by rw [HR.out]; rfl), hb3⟩
      | false =>
        go_wp2
        go_ret
        exact ⟨reti (by rw [HR.out]; rfl), hb3⟩

noncomputable def launchM (l : List Cd) (n : Int) (m : List Int) : List Int := if reasonOf l n m = 0 then runOf (optL l) n m else if reasonOf l n m = 1 then [] else m
theorem launchM_len (l : List Cd) (n : Int) (m : List Int) : (launchM l n m).length ≤ 32 + m.length := by
  unfold launchM
  split
  · have := runOf_len (optL l) n m; omega
  · split
    · simp
    · omega
theorem reason_cases (l : List Cd) (n : Int) (m : List Int) : (reasonOf l n m = 1 ∧ lockOk l n m = false) ∨ (lockOk l n m = true ∧ 1 ≤ m.length ∧ m.length ≤ 32 ∧ (reasonOf l n m = 0 ∨ reasonOf l n m = 2 ∨ reasonOf l n m = 3)) := by
  cases h : lockOk l n m with
  | false => exact .inl ⟨by simp [reasonOf, h], rfl⟩
  | true =>
    have h' := h
    simp only [lockOk, Bool.and_eq_true] at h'
    obtain ⟨h0, h1, h2⟩ := memOk_iff.1 h'.2.2
    refine .inr ⟨rfl, h1, h2, ?_⟩
    simp only [reasonOf, h, if_true]
    split
    · exact .inr (.inl rfl)
    · split
      · exact .inr (.inr rfl)
      · exact .inl rfl

def LaP (w : World) (l : List Cd) (n : Int) (m : List Int) (e : Ending) (w' : World) : Prop :=
  ∃ (M : Option Addr) (c : Nat), e = .returned (.tuple #[.slice M (launchM l n m).length c, .int .i64 (reasonOf l n m)]) ∧ OwI w' w.heap.size M (launchM l n m).length c (launchM l n m) ∧ Below w.heap.size w w'

set_option maxRecDepth 100000 in
set_option maxHeartbeats 4000000 in
theorem iLaunch_c (A Am : Option Addr) (ca cm : Nat) (l : List Cd) (n : Int) (m : List Int) (w : World) (hA : RdC w w.heap.size A l) (hM : RdI w w.heap.size Am m) (hl : l.length ≤ 1000000000) (hml : m.length ≤ 1000000000) :
    Calls Tryz.prog 13 #[.slice A l.length ca, .int .i64 n, .slice Am m.length cm] w (LaP w l n m) := by
  have hol := optL_len l
  have HRC := Lib.hid (reason_cases l n m)
  have HLM := Lib.hid (show launchM l n m = if reasonOf l n m = 0 then runOf (optL l) n m else if reasonOf l n m = 1 then [] else m from rfl)
  have HRS := Lib.hid (fun W a b => reason_c A Am ca cm l n m W a b hl hml)
  unfold LaP
  generalize launchM l n m = V at *
  generalize reasonOf l n m = rs at *
  go_enter Tryz.func13, Tryz.ntmps13
  go_wp2_with fail
  refine (HRS.out w hA hM).mono ?_
  rintro e w1 ⟨rfl, hb1⟩
  replace hA := (hA.below hb1).more hb1.size
  replace hM := (hM.below hb1).more hb1.size
  have HO := Lib.hid (fun W a => iOptimize_c A ca l W a hl)
  rcases HRC.out with ⟨rfl, -⟩ | ⟨-, hm1, hm32, rfl | rfl | rfl⟩
  · have hV : V = [] := HLM.out
    subst hV
    clear HLM HRC
    go_wp2
    go_ret2
    exact ⟨none, 0, rfl, .inl ⟨rfl, rfl⟩, hb1⟩
  · have hV : V = runOf (optL l) n m := HLM.out
    subst hV
    clear HLM HRC
    go_wp2_with fail
    refine (HO.out w1 hA).mono ?_
    rintro e w2 ⟨A2, c2, rfl, o2, hb2⟩
    have r2 := OwC.rd o2
    replace hM := (hM.below hb2).more hb2.size
    replace hb2 := below_trans hb1 (Nat.le_refl _) hb2
    clear o2
    go_wp2_with fail
    refine (iRunLockO_c A2 Am c2 cm (optL l) n m w2 r2 hM (by omega) hml).mono ?_
    rintro e w3 ⟨M, c, rfl, oM, hb3⟩
    have hbe := below_trans hb2 (Nat.le_refl _) hb3
    have HMo := Lib.hid (oM.imp id (fun h => OR.mono h hb2.size))
    clear oM
    go_wp2
    go_ret2
    exact ⟨M, c, rfl, HMo.out, hbe⟩
  · have hV : V = m := HLM.out
    subst hV
    clear HLM HRC
    obtain ⟨mb0, mo0, y0, rfl, _, _, _⟩ := hM.at_ (k := 0) (by omega)
    go_wp2_with fail
    refine (cloneI_c _ cm V w1 hM hml (fun e => by cases e)).mono ?_
    rintro e w2 ⟨M, c, rfl, oM, hb2⟩
    have hbe := below_trans hb1 (Nat.le_refl _) hb2
    have HMo := Lib.hid (OR.mono oM hb1.size)
    clear oM
    go_wp2
    go_ret2
    exact ⟨M, c, rfl, .inr HMo.out, hbe⟩
  · have hV : V = m := HLM.out
    subst hV
    clear HLM HRC
    obtain ⟨mb0, mo0, y0, rfl, _, _, _⟩ := hM.at_ (k := 0) (by omega)
    go_wp2_with fail
    refine (cloneI_c _ cm V w1 hM hml (fun e => by cases e)).mono ?_
    rintro e w2 ⟨M, c, rfl, oM, hb2⟩
    have hbe := below_trans hb1 (Nat.le_refl _) hb2
    have HMo := Lib.hid (OR.mono oM hb1.size)
    clear oM
    go_wp2
    go_ret2
    exact ⟨M, c, rfl, .inr HMo.out, hbe⟩

set_option maxRecDepth 100000 in
set_option maxHeartbeats 4000000 in
theorem sLaunch_c (A Am : Option Addr) (ca cm : Nat) (l : List Cd) (n : Int) (m : List Int) (w : World) (hA : RdC w w.heap.size A l) (hM : RdI w w.heap.size Am m) (hl : l.length ≤ 1000000000) (hml : m.length ≤ 1000000000) :
    Calls Tryz.prog 10 #[.slice A l.length ca, .int .i64 n, .slice Am m.length cm] w (LaP w l n m) := by
  have hol := optL_len l
  have HRC := Lib.hid (reason_cases l n m)
  have HLM := Lib.hid (show launchM l n m = if reasonOf l n m = 0 then runOf (optL l) n m else if reasonOf l n m = 1 then [] else m from rfl)
  have HRS := Lib.hid (fun W a b => sReason_c A Am ca cm l n m W a b hl hml)
  unfold LaP
  generalize launchM l n m = V at *
  generalize reasonOf l n m = rs at *
  go_enter Tryz.func10, Tryz.ntmps10
  go_wp2_with fail
  refine (HRS.out w hA hM).mono ?_
  rintro e w1 ⟨rfl, hb1⟩
  replace hA := (hA.below hb1).more hb1.size
  replace hM := (hM.below hb1).more hb1.size
  have HO := Lib.hid (fun W a => sOptimize_c A ca l W a hl)
  rcases HRC.out with ⟨rfl, -⟩ | ⟨-, hm1, hm32, hrs⟩
  · have hV : V = [] := HLM.out
    subst hV
    clear HLM HRC
    go_wp2
    go_ret2
    exact ⟨_, _, rfl, .inr (OI.empty_ w1 w.heap.size hb1.size), hb1.alloc hb1.size _⟩
  · rcases hrs with rfl | hrs
    · have hV : V = runOf (optL l) n m := HLM.out
      subst hV
      clear HLM HRC
      go_wp2_with fail
      refine (HO.out w1 hA).mono ?_
      rintro e w2 ⟨A2, c2, rfl, o2, hb2⟩
      have r2 := OwC.rd o2
      replace hM := (hM.below hb2).more hb2.size
      replace hb2 := below_trans hb1 (Nat.le_refl _) hb2
      clear o2
      go_wp2_with fail
      refine (sRunLockO_c A2 Am c2 cm (optL l) n m w2 r2 hM (by omega) hml).mono ?_
      rintro e w3 ⟨M, c, rfl, oM, hb3⟩
      have hbe := below_trans hb2 (Nat.le_refl _) hb3
      have HMo := Lib.hid (oM.imp id (fun h => OR.mono h hb2.size))
      clear oM
      go_wp2
      go_ret2
      exact ⟨M, c, rfl, HMo.out, hbe⟩
    · have hV : V = m := by rw [HLM.out]; rcases hrs with rfl | rfl <;> rfl
      subst hV
      clear HLM HRC
      obtain ⟨mb0, mo0, y0, rfl, _, _, _⟩ := hM.at_ (k := 0) (by omega)
      have hM1 := Lib.hid (hM.below ((Below.refl w1.heap.size w1).alloc (Nat.le_refl _) (.cells #[] 3)))
      have ho0 := Lib.hid (OI.empty_ w1 w1.heap.size (Nat.le_refl _))
      rcases hrs with rfl | rfl
      · go_wp2_with (at_builtin; refine app_rd 23 3 _ 1 8 Tryz.underlying23 infoInt rfl (by decide) (by decide) rfl _ _ rfl w1.heap.size _ 0 0 _ ho0.out rfl w1.heap.size ⟨mb0, mo0, none⟩ V.length cm _ rfl hM1.out (ints_one V) ?hn ?hb ?_)
        case hn => omega
        case hb => simp
        intro A' c' w2 ho1 hg1
        have hb2 := below_gr ((Below.refl w1.heap.size w1).alloc (Nat.le_refl _) (.cells #[] 3)) (by simp) ho0.out (Nat.le_refl _) hg1
        replace ho1 : OI w2 w1.heap.size A' V.length c' V := by unfold OI; simpa using ho1
        have HMo := Lib.hid (OR.mono ho1 hb1.size)
        have hbe := below_trans hb1 (Nat.le_refl _) hb2
        clear hM1 ho0 hg1 ho1
        go_wp2
        go_ret2
        exact ⟨A', c', rfl, .inr HMo.out, hbe⟩
      · go_wp2_with (at_builtin; refine app_rd 23 3 _ 1 8 Tryz.underlying23 infoInt rfl (by decide) (by decide) rfl _ _ rfl w1.heap.size _ 0 0 _ ho0.out rfl w1.heap.size ⟨mb0, mo0, none⟩ V.length cm _ rfl hM1.out (ints_one V) ?hn ?hb ?_)
        case hn => omega
        case hb => simp
        intro A' c' w2 ho1 hg1
        have hb2 := below_gr ((Below.refl w1.heap.size w1).alloc (Nat.le_refl _) (.cells #[] 3)) (by simp) ho0.out (Nat.le_refl _) hg1
        replace ho1 : OI w2 w1.heap.size A' V.length c' V := by unfold OI; simpa using ho1
        have HMo := Lib.hid (OR.mono ho1 hb1.size)
        have hbe := below_trans hb1 (Nat.le_refl _) hb2
        clear hM1 ho0 hg1 ho1
        go_wp2
        go_ret2
        exact ⟨A', c', rfl, .inr HMo.out, hbe⟩

theorem race_pair (l : List Acc) : raceB l = false ↔ l.Pairwise fun a b => clashA a b = false := by
  rw [List.pairwise_iff_getElem]
  constructor
  · intro h i j hi hj hij
    cases hc : clashA l[i] l[j] with
    | false => rfl
    | true =>
      have := race_yes hij (List.getElem?_eq_getElem hi) (List.getElem?_eq_getElem hj) hc
      rw [h] at this; cases this
  · intro h
    refine race_no fun k i hk hik => ?_
    rintro ⟨a, b, ha, hb, hc⟩
    obtain ⟨hi, rfl⟩ := List.getElem?_eq_some_iff.1 ha
    obtain ⟨hj, rfl⟩ := List.getElem?_eq_some_iff.1 hb
    have := h i k hi hj hik
    rw [this] at hc; cases hc
theorem race_sub {l l' : List Acc} (h : l'.Sublist l) (hr : raceB l = false) : raceB l' = false := (race_pair l').2 (((race_pair l).1 hr).sublist h)
theorem opt_le {l : List Cd} (h : pv l = true) {n : Nat} (hn : 1 ≤ n ∧ n ≤ 8) {m : List Int} (hm : memOk m = true) : Less n m l (optL l) := by
  have e : optL l = packL (dropDeadL (picked l)) := by simp [optL, usePicksL, h]
  rw [e]
  exact opt_less h hn hm
theorem less_ok {l l' : List Cd} {n : Nat} {m : List Int} (h : lockOk l n m = true) (k : Less n m l l') : lockOk l' n m = true ∧ runOf l' n m = runOf l n m := by
  have h' := h
  simp only [lockOk, Bool.and_eq_true] at h'
  have e : lockOk l' n m = true := by simp only [lockOk, k.ok, h'.2.1, h'.2.2, Bool.and_self]
  refine ⟨e, ?_⟩
  simp only [runOf, h, e, if_true, Int.toNat_natCast, k.mem]
theorem opt_run {l : List Cd} {n : Int} {mem : List Int} (hok : lockOk l n mem = true) : lockOk (optL l) n mem = true ∧ runOf (optL l) n mem = runOf l n mem := by
  have h' := hok
  simp only [lockOk, Bool.and_eq_true] at h'
  obtain ⟨k, rfl⟩ : ∃ k : Nat, n = (k : Int) := ⟨n.toNat, by have := (inR_iff.1 h'.2.1).1; omega⟩
  have := inR_iff.1 h'.2.1
  exact less_ok hok (opt_le h'.1 (by omega) h'.2.2)
theorem opt_twice {l : List Cd} {n : Int} {mem : List Int} (hok : lockOk l n mem = true) (h0 : reasonOf l n mem = 0) : reasonOf (optL l) n mem = 0 ∧ launchM (optL l) n mem = launchM l n mem := by
  have h' := hok
  simp only [lockOk, Bool.and_eq_true] at h'
  obtain ⟨k, rfl⟩ : ∃ k : Nat, n = (k : Int) := ⟨n.toNat, by have := (inR_iff.1 h'.2.1).1; omega⟩
  have hk := inR_iff.1 h'.2.1
  have K := opt_le h'.1 (n := k) (by omega) h'.2.2
  obtain ⟨ok2, e2⟩ := less_ok hok K
  have e3 := opt_run ok2
  have hr : reasonOf (optL l) k mem = 0 := by
    have h1 := h0
    simp only [reasonOf, hok, if_true] at h1
    have hs : splitB l (k : Int).toNat (lockS l (k : Int).toNat mem).beats = false := by
      cases hs : splitB l (k : Int).toNat (lockS l (k : Int).toNat mem).beats with
      | false => rfl
      | true => rw [hs] at h1; simp at h1
    rw [hs] at h1
    have hb : raceB (accsOf l k mem) = false := by
      cases hb : raceB (accsOf l k mem) with
      | false => rfl
      | true => rw [hb] at h1; simp at h1
    have hs2 : splitB (optL l) (k : Int).toNat (lockS (optL l) (k : Int).toNat mem).beats = false := by
      rw [Int.toNat_natCast] at hs ⊢
      rw [K.spl]; exact hs
    have hb2 : raceB (accsOf (optL l) k mem) = false := by
      refine race_sub ?_ hb
      simp only [accsOf, hok, ok2, if_true, Int.toNat_natCast]
      exact K.al
    rw [Int.toNat_natCast] at hs2
    simp [reasonOf, ok2, hs2, hb2]
  refine ⟨hr, ?_⟩
  simp only [launchM, hr, h0, if_true, e3.2]
theorem name_launch {l x : List Cd} {a b : Nat} {n : Int} {mem : List Int} (ha : a < 4) (hb : b < 4) (hok : lockOk l n mem = true) (hx : swapL l (a : Int) (b : Int) = x) : reasonOf x n mem = reasonOf l n mem ∧ launchM x n mem = launchM l n mem := by
  have h2 := hok
  simp only [lockOk, Bool.and_eq_true] at h2
  have e : x = l.map (ren (nm (swapTo a b))) := by
    rw [← hx]
    simp [swapL, h2.1, inR_iff.2 (show (0 : Int) ≤ (a : Int) ∧ (a : Int) ≤ 3 by omega), inR_iff.2 (show (0 : Int) ≤ (b : Int) ∧ (b : Int) ≤ 3 by omega)]
  subst e
  have hN := Names.swap (a := (a : Int)) (b := (b : Int)) (by omega) (by omega)
  obtain ⟨k1, k2, k3⟩ := acc_ren hN hok
  have hn := inR_iff.1 h2.2.1
  have R := (names_run hN h2.1).2 (n := n.toNat) mem (by omega)
  have hs : splitB (l.map (ren (nm (swapTo a b)))) n.toNat (lockS (l.map (ren (nm (swapTo a b)))) n.toNat mem).beats = splitB l n.toNat (lockS l n.toNat mem).beats := by
    rw [R.beats]
    exact split_ren l n.toNat _
  have hr : reasonOf (l.map (ren (nm (swapTo a b)))) n mem = reasonOf l n mem := by
    simp only [reasonOf, hok, k1, k2, hs]
  refine ⟨hr, ?_⟩
  have e1 := opt_run hok
  have e2 := opt_run k1
  have e3 : runOf (l.map (ren (nm (swapTo a b)))) n mem = runOf l n mem := by simp only [runOf, hok, k1, if_true, R.mem]
  simp only [launchM, hr, e1.2, e2.2, e3]

end Go.Proofs.YtakeacndmnnbmaaGreat
