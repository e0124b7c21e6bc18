/- CanPick and PickPlaces of both packages. -/
import Derived.Test.YtakeacndmnnbmaaGreatValid1
import Derived.Test.YtakeacndmnnbmaaGreatBlocks0
import Derived.Deep.RegionHeld3
import Derived.Deep.AppendLies
import Derived.IntWalk
import Derived.Test.YtakeacndmnnbmaaGreatCodes
namespace Go.Proofs.YtakeacndmnnbmaaGreat
open Go.RowKit
set_option linter.unusedVariables false
set_option linter.unusedSimpArgs false

def canPick (l : List Cd) (k : Int) : Bool := pv l && (inR k 0 (l.length - 3) && pickB l k.toNat)

theorem sCanPick_c (A : Option Addr) (c : Nat) (l : List Cd) (k : Int) (w : World) (hA : RdC w w.heap.size A l) (hl : l.length ≤ 1000000000) :
    Calls Tryz.prog 89 #[.slice A l.length c, .int .i64 k] w fun e w' => e = .returned (.bool (canPick l k)) ∧ Below w.heap.size w w' := by
  cases hp : pv l with
  | false =>
    go_enter Tryz.func89, Tryz.ntmps89
    go_wp2_with fail
    refine (sProgramValid_c A c l w hA hl).mono ?_
    rintro e w1 ⟨rfl, hb⟩
    go_wp2
    go_ret
    exact ⟨retb (by simp [canPick, hp]), hb⟩
  | true =>
    cases hr : inR k 0 (l.length - 3) with
    | false =>
      go_enter Tryz.func89, Tryz.ntmps89
      go_wp2_with fail
      refine (sProgramValid_c A c l w hA hl).mono ?_
      rintro e w1 ⟨rfl, hb⟩
      go_wp2_with (go_at_call 54; refine (l1In_c _ _ _ _).mono ?_; rintro e w' ⟨rfl, rfl⟩)
      go_ret
      exact ⟨retb (by simp [canPick, hr]), hb⟩
    | true =>
      obtain ⟨hr1, hr2⟩ := inR_iff.1 hr
      obtain ⟨n, rfl⟩ := Int.eq_ofNat_of_zero_le hr1
      have hn : n + 2 < l.length := by omega
      go_enter Tryz.func89, Tryz.ntmps89
      go_wp2_with fail
      refine (sProgramValid_c A c l w hA hl).mono ?_
      rintro e w1 ⟨rfl, hb⟩
      obtain ⟨b, off, x, rfl, hbB, hx, c0, -, -, -⟩ := (hA.below hb).at_ (show n < l.length by omega)
      have hy : l[n + 1]? = some (l[n + 1]'(by omega)) := List.getElem?_eq_getElem (by omega)
      have hz : l[n + 2]? = some (l[n + 2]'(by omega)) := List.getElem?_eq_getElem (by omega)
      generalize l[n + 1]'(by omega) = y at hy
      generalize l[n + 2]'(by omega) = z at hz
      have d0 := ((hA.below hb).at0 hy).2.1
      have e0 := ((hA.below hb).at0 hz).2.1
      have hpk : pickB l n = (x.op == 11 && y.op == 5 && z.op == 14) := by simp [pickB, opAt, hx, hy, hz]
      have HK := Lib.hid hpk
      have HX := Lib.hid (And.intro hx (And.intro hy hz))
      clear hx hy hz hpk hr1
      go_wp2_with (go_at_call 54; refine (l1In_c _ _ _ _).mono ?_; rintro e w' ⟨rfl, rfl⟩)
      all_goals go_ret
      all_goals refine ⟨retb ?_, hb⟩
      all_goals (unfold canPick; rw [Int.toNat_natCast, HK.out, hp, hr]; simp_all)

theorem pickB_short {l : List Cd} {n : Nat} (h : ¬ n + 2 < l.length) : pickB l n = false := by
  have : opAt l (n + 2) = 0 := by simp [opAt, List.getElem?_eq_none (show l.length ≤ n + 2 by omega)]
  simp [pickB, this]

theorem iCanPick0_c (A : Option Addr) (c n : Nat) (l : List Cd) (w : World) (hA : RdC w w.heap.size A l) (hl : l.length ≤ 1000000000) (hn : n ≤ l.length) :
    Calls Tryz.prog 71 #[.slice A l.length c, .int .i64 n] w fun e w' => e = .returned (.bool (pickB l n)) ∧ Below w.heap.size w w' := by
  by_cases h3 : n + 2 < l.length
  · obtain ⟨b, off, x, rfl, hbB, hx, c0, -, -, -⟩ := hA.at_ (show n < l.length by omega)
    have hy : l[n + 1]? = some (l[n + 1]'(by omega)) := List.getElem?_eq_getElem (by omega)
    have hz : l[n + 2]? = some (l[n + 2]'(by omega)) := List.getElem?_eq_getElem (by omega)
    generalize l[n + 1]'(by omega) = y at hy
    generalize l[n + 2]'(by omega) = z at hz
    have d0 := (hA.at0 hy).2.1
    have e0 := (hA.at0 hz).2.1
    have hpk : pickB l n = (x.op == 11 && y.op == 5 && z.op == 14) := by simp [pickB, opAt, hx, hy, hz]
    have HK := Lib.hid hpk
    clear hx hy hz hpk
    go_enter Tryz.func71, Tryz.ntmps71
    go_wp2
    all_goals go_ret
    all_goals refine ⟨retb ?_, Below.refl _ _⟩
    all_goals (rw [HK.out]; simp_all)
  · go_enter Tryz.func71, Tryz.ntmps71
    go_wp2
    go_ret
    exact ⟨retb (pickB_short h3).symm, Below.refl _ _⟩

theorem grown_drew {w w' : World} {row : Option Nat} (h : w.drew.grownBy w' row) : w.grownBy w' row := ⟨h.os, h.tape, h.output, h.size, h.block⟩

theorem canPick_nat (l : List Cd) (k : Nat) : canPick l (k : Int) = (pv l && pickB l k) := by
  unfold canPick
  rw [Int.toNat_natCast]
  by_cases h : k + 2 < l.length
  · have : inR (k : Int) 0 ((l.length : Int) - 3) = true := by rw [inR_iff]; omega
    rw [this, Bool.true_and]
  · rw [pickB_short h]; simp

def picksI (l : List Cd) (k : Nat) : List Int := if pv l then (picksFrom l k).map Int.ofNat else []
theorem picksI_yes {l : List Cd} {k : Nat} (h : canPick l (k : Int) = true) : picksI l (k + 1) = picksI l k ++ [(k : Int)] := by
  rw [canPick_nat] at h
  simp only [Bool.and_eq_true] at h
  simp [picksI, h.1, picksFrom_succ, h.2]
theorem picksI_no {l : List Cd} {k : Nat} (h : canPick l (k : Int) = false) : picksI l (k + 1) = picksI l k := by
  rw [canPick_nat] at h
  cases hp : pv l with
  | false => simp [picksI, hp]
  | true =>
    rw [hp, Bool.true_and] at h
    simp [picksI, hp, picksFrom_succ, h]

theorem picksFrom_len (l : List Cd) : ∀ k, (picksFrom l k).length ≤ k
  | 0 => by simp [picksFrom]
  | k + 1 => by
    have := picksFrom_len l k
    rw [picksFrom_succ, List.length_append]
    split <;> simp <;> omega
theorem picksI_len (l : List Cd) (k : Nat) : (picksI l k).length ≤ k := by
  unfold picksI
  split
  · rw [List.length_map]; exact picksFrom_len l k
  · simp

def SPRel (w : World) (l : List Cd) (ov iv : Value) (wr : World) : Prop :=
  ∃ (k : Nat) (A : Option Addr) (n c : Nat), k ≤ l.length ∧ iv = .int .i64 k ∧ ov = .slice A n c ∧ OI wr w.heap.size A n c (picksI l k) ∧ n ≤ k ∧ Below w.heap.size w wr

def IPRel (w : World) (l : List Cd) (ov iv : Value) (wr : World) : Prop :=
  ∃ (k : Nat) (A : Option Addr) (n c : Nat), k ≤ l.length ∧ iv = .int .i64 k ∧ ov = .slice A n c ∧ OI wr w.heap.size A n c ((picksFrom l k).map Int.ofNat) ∧ n ≤ k ∧ Below w.heap.size w wr

def SURel (w : World) (l : List Cd) (ov iv : Value) (wr : World) : Prop :=
  ∃ (k : Nat) (A : Option Addr) (m : List Cd) (n c : Nat), k ≤ l.length ∧ iv = .int .i64 k ∧ ov = .slice A n c ∧ OC wr w.heap.size A n c m ∧ n ≤ k ∧ Hid (m ++ picked (l.drop k) = picked l) ∧ Below w.heap.size w wr

set_option maxHeartbeats 1000000 in
theorem iusePicks_c (A : Option Addr) (c : Nat) (l : List Cd) (w : World) (hA : RdC w w.heap.size A l) (hl : l.length ≤ 1000000000) :
    Calls Tryz.prog 45 #[.slice A l.length c] w (RetC w (picked l)) := by
  go_enter Tryz.func45, Tryz.ntmps45
  go_wp2
  go_loopw [3, 4] (fun ov iv wr => SURel w l ov iv wr) (fun _ i _ => l.length - (intOf i).toNat)
  case atStart => exact ⟨0, _, [], 0, 0, Nat.zero_le _, rfl, rfl, OC.nil_ _ _, Nat.le_refl _, rfl, (by repeat (first | exact Below.refl _ _ | assumption | refine Below.alloc ?_ (by simp <;> omega) _ | refine Below.setCell ?_ (by simp <;> omega) _ | refine Below.drew ?_))⟩
  case round =>
    obtain ⟨k, A1, m, n, c1, hk, rfl, rfl, ho, hn, HE, hb⟩ := hrel
    by_cases hlt : k < l.length
    · go_wp2_with fail
      refine (iCanPick0_c A c k l wr ((hA.below hb).more hb.size) hl hk).mono ?_
      rintro e w1 ⟨rfl, hb1⟩
      have ho1 := ho.below hb1 (Nat.le_refl _)
      have hb2 := below_trans hb (Nat.le_refl _) hb1
      have hA1 := hA.below hb2
      cases h : pickB l k with
      | false =>
        have HN := Lib.hid (picked_no h hlt ⟨0, 0, 0, 0⟩)
        obtain ⟨b, off, x, rfl, hbB, hx, c0, c1', c2, c3⟩ := hA1.at_ hlt
        have HX := Lib.hid hx
        clear h hx hA1
        go_wp2_with (at_builtin; refine app_code rfl _ _ rfl w.heap.size _ _ _ _ (ho1.alloc _) rfl x w1.heap.size 1 rfl ?h0 ?h1 ?h2 ?h3 ?hn ?hbase ?_)
        case h0 => simp [go_sem]
        case h1 => simp [go_sem]
        case h2 => simp [go_sem]
        case h3 => simp [go_sem]
        case hn => omega
        case hbase => have := hb2.size; simp [World.drew]; omega
        intro A' c' w3 ho2 hg2
        go_wp2
        go_roundw
        case rel =>
          refine ⟨k + 1, A', m ++ [x], n + 1, c', by omega, by go_num, rfl, ho2, by omega, Lib.hid ?_, below_app hb2 hb2.size ho1 (Nat.le_refl _) hg2⟩
          have h1 := HN.out
          have h2 : l.getD k ⟨0, 0, 0, 0⟩ = x := by rw [List.getD_eq_getElem?_getD, HX.out]; rfl
          rw [h2] at h1
          rw [← HE.out, h1, List.append_assoc]
          rfl
        case measure => simp [intOf]; omega
      | true =>
        have hN := picked_yes h ⟨0, 0, 0, 0⟩
        obtain ⟨x0, y0, z0, r0, hd, ho1', ho2', ho3', hk3⟩ := pickB_true h
        obtain ⟨b, off, x, rfl, hbB, hx, c0, c1', c2, c3⟩ := hA1.at_ hlt
        have hy : l[k + 1]? = some (l[k + 1]'(by omega)) := List.getElem?_eq_getElem (by omega)
        generalize l[k + 1]'(by omega) = y at hy
        obtain ⟨-, d0, d1, d2, d3⟩ := hA1.at0 hy
        have e1 : l.getD (k + 1) ⟨0, 0, 0, 0⟩ = y := by rw [List.getD_eq_getElem?_getD, hy]; rfl
        have e2 : l.getD k ⟨0, 0, 0, 0⟩ = x := by rw [List.getD_eq_getElem?_getD, hx]; rfl
        rw [e1, e2] at hN
        have HN := Lib.hid hN
        clear h hx hA1 hN hd ho1' ho2' ho3' hy e1 e2
        obtain ⟨i0, hi0, hz0, hz1, hz2⟩ := info_parts infoCode
        have hne : Value.ownBlock (.slice A1 n c1) ≠ some b := fun e => by have := (OR.block ho1 b e).1; omega
        have q0 : (0 : Int) ≤ (k : Int) := Int.natCast_nonneg _
        have q1 : IntKind.i64.wrap ((k : Int) + 1) = (k : Int) + 1 := IntWalk.i64_in _ (by omega)
        have q2 : (0 : Int) ≤ (k : Int) + 1 := by omega
        have q3 : ((k : Int) + 1).toNat = k + 1 := by omega
        have q4 : (k : Int) + 1 < (l.length : Int) := by omega
        have q5 : (k : Int) < (l.length : Int) := by omega
        have hbl : b < w1.heap.size := by have := hb2.size; omega
        have hsz := hb2.size
        go_wp2_with fail
        go_region_held3 (fun w' => w'.cell? ⟨b, off + (k + 1) * 4 + 1, none⟩ = some (.int .i64 y.a) ∧ w'.cell? ⟨b, off + (k + 1) * 4 + 2, none⟩ = some (.int .i64 y.b) ∧ w'.cell? ⟨b, off + k * 4 + 1, none⟩ = some (.int .i64 x.a))
          (first
            | go_keep
            | (go_split_ands
               refine ⟨?_, ?_, ?_⟩ <;> (rw [hgrow.cell_far _ (by simp; omega) (Ne.symm hne)]; assumption)))
          ((refine step_append_lies _ (by rfl) _ _ _ (by rfl) w.heap.size 57 i0 _ 4 32 Tryz.underlying27 hi0 hz0 hz1 hz2 rfl (by omega) (.slice A1 n c1) n _ (by rfl) ((OR.alloc ho1 _).drew)
              ⟨w1.heap.size, 0, none⟩ 1 1 [.int .i64 7, .int .i64 y.a, .int .i64 y.b, .int .i64 x.a] (by rfl) (by rfl) (World.news_of_block (cs := #[.int .i64 7, .int .i64 y.a, .int .i64 y.b, .int .i64 x.a]) (t := 57) (fr := (0, 0)) (heap_alloc_new w1 _)) (by simp [Value.oneCell'])
              (by omega) (by unfold maxLen; omega) (by omega) (by simp; omega) (w1.heap.size + 1) (by simp) ?_; intro gg cap w3 ho2 hgrow hat hlt3))
        clear q0 q1 q2 q3 q4 q5
        go_wp2
        go_roundw
        case rel =>
          refine ⟨k + 3, _, m ++ [⟨7, y.a, y.b, x.a⟩], n + 1, cap, by omega, by go_num, rfl, by unfold OC; rw [cdsCells_append]; exact ho2, by omega, Lib.hid ?_, below_app hb2 hb2.size ho1 (Nat.le_refl _) (grown_drew hgrow)⟩
          rw [← HE.out, HN.out, List.append_assoc]
          rfl
        case measure => simp [intOf]; omega
    · obtain rfl : k = l.length := by omega
      go_wp2
      go_ret
      refine RetC.of ?_ hb
      have := HE.out
      rw [List.drop_length] at this
      simp only [picked, List.append_nil] at this
      rw [← this]
      exact ho

def usePicksL (l : List Cd) : List Cd := if pv l then picked l else []
theorem picked_len : ∀ l : List Cd, (picked l).length ≤ l.length
  | [] => by simp [picked]
  | [x] => by simp [picked]
  | [x, y] => by simp [picked]
  | x :: y :: z :: r => by
    unfold picked
    split
    · have := picked_len r; simp; omega
    · have := picked_len (y :: z :: r); simp at this ⊢; omega
theorem usePicksL_len (l : List Cd) : (usePicksL l).length ≤ l.length := by
  unfold usePicksL
  split
  · exact picked_len l
  · simp

set_option maxHeartbeats 2000000 in
theorem sUsePicks_c (A : Option Addr) (c : Nat) (l : List Cd) (w : World) (hA : RdC w w.heap.size A l) (hl : l.length ≤ 1000000000) :
    Calls Tryz.prog 60 #[.slice A l.length c] w (RetC w (usePicksL l)) := by
  cases hp : pv l with
  | false =>
    have HU := Lib.hid (show usePicksL l = [] by simp [usePicksL, hp])
    go_enter Tryz.func60, Tryz.ntmps60
    go_wp2
    go_loopw [3, 4] (fun ov iv wr => ∃ (A1 : Option Addr) (c1 : Nat), iv = .int .i64 0 ∧ ov = .slice A1 0 c1 ∧ OC wr w.heap.size A1 0 c1 [] ∧ Below w.heap.size w wr) (fun _ _ _ => 0)
    case atStart => exact ⟨_, _, rfl, rfl, OC.empty_ w _ (Nat.le_refl _), (by repeat (first | exact Below.refl _ _ | assumption | refine Below.alloc ?_ (by simp <;> omega) _ | refine Below.setCell ?_ (by simp <;> omega) _ | refine Below.drew ?_))⟩
    case round =>
      obtain ⟨A1, c1, rfl, rfl, ho, hb⟩ := hrel
      by_cases hlt : 0 < l.length
      · go_wp2_with fail
        refine (sProgramValid_c A c l wr ((hA.below hb).more hb.size) hl).mono ?_
        rintro e w1 ⟨rfl, hb1⟩
        go_wp2
        go_ret
        rw [HU.out]
        exact RetC.of (OR.below ho hb1 (Nat.le_refl _)) (below_trans hb (Nat.le_refl _) hb1)
      · have h0 : ¬ (0 : Int) < (l.length : Int) := by omega
        go_wp2
        go_ret
        rw [HU.out]
        exact RetC.of ho hb
  | true =>
    have HU := Lib.hid (show usePicksL l = picked l by simp [usePicksL, hp])
    go_enter Tryz.func60, Tryz.ntmps60
    go_wp2
    go_loopw [3, 4] (fun ov iv wr => SURel w l ov iv wr) (fun _ i _ => l.length - (intOf i).toNat)
    case atStart => exact ⟨0, _, [], 0, 0, Nat.zero_le _, rfl, rfl, OC.empty_ w _ (Nat.le_refl _), Nat.le_refl _, rfl, (by repeat (first | exact Below.refl _ _ | assumption | refine Below.alloc ?_ (by simp <;> omega) _ | refine Below.setCell ?_ (by simp <;> omega) _ | refine Below.drew ?_))⟩
    case round =>
      obtain ⟨k, A1, m, n, c1, hk, rfl, rfl, ho, hn, HE, hb⟩ := hrel
      by_cases hlt : k < l.length
      · go_wp2_with fail
        refine (sProgramValid_c A c l wr ((hA.below hb).more hb.size) hl).mono ?_
        rintro e w0 ⟨rfl, hb0⟩
        have ho0 := ho.below hb0 (Nat.le_refl _)
        have hb' := below_trans hb (Nat.le_refl _) hb0
        go_wp2_with fail
        refine (sCanPick_c A c l k w0 ((hA.below hb').more hb'.size) hl).mono ?_
        rintro e w1 ⟨rfl, hb1⟩
        have ho1 := ho0.below hb1 (Nat.le_refl _)
        have hb2 := below_trans hb' (Nat.le_refl _) hb1
        have hA1 := hA.below hb2
        have hcp := canPick_nat l k
        rw [hp, Bool.true_and] at hcp
        rw [hcp]
        clear hcp ho0
        have HP := Lib.hid hp
        clear hp
        cases h : pickB l k with
        | false =>
          have HN := Lib.hid (picked_no h hlt ⟨0, 0, 0, 0⟩)
          obtain ⟨b, off, x, rfl, hbB, hx, c0, c1', c2, c3⟩ := hA1.at_ hlt
          have HX := Lib.hid hx
          clear h hx hA1
          go_wp2_with (at_builtin; refine app_code rfl _ _ rfl w.heap.size _ _ _ _ (ho1.alloc _) rfl x w1.heap.size 1 rfl ?h0 ?h1 ?h2 ?h3 ?hn ?hbase ?_)
          case h0 => simp [go_sem]
          case h1 => simp [go_sem]
          case h2 => simp [go_sem]
          case h3 => simp [go_sem]
          case hn => omega
          case hbase => have := hb2.size; simp; omega
          intro A' c' w3 ho2 hg2
          go_wp2
          go_roundw
          case rel =>
            refine ⟨k + 1, A', m ++ [x], n + 1, c', by omega, by go_num, rfl, ho2, by omega, Lib.hid ?_, below_app hb2 hb2.size ho1 (Nat.le_refl _) hg2⟩
            have h1 := HN.out
            have h2 : l.getD k ⟨0, 0, 0, 0⟩ = x := by rw [List.getD_eq_getElem?_getD, HX.out]; rfl
            rw [h2] at h1
            rw [← HE.out, h1, List.append_assoc]
            rfl
          case measure => simp [intOf]; omega
        | true =>
          have hN := picked_yes h ⟨0, 0, 0, 0⟩
          obtain ⟨x0, y0, z0, r0, hd, ho1', ho2', ho3', hk3⟩ := pickB_true h
          obtain ⟨b, off, x, rfl, hbB, hx, c0, c1', c2, c3⟩ := hA1.at_ hlt
          have hy : l[k + 1]? = some (l[k + 1]'(by omega)) := List.getElem?_eq_getElem (by omega)
          generalize l[k + 1]'(by omega) = y at hy
          obtain ⟨-, d0, d1, d2, d3⟩ := hA1.at0 hy
          have e1 : l.getD (k + 1) ⟨0, 0, 0, 0⟩ = y := by rw [List.getD_eq_getElem?_getD, hy]; rfl
          have e2 : l.getD k ⟨0, 0, 0, 0⟩ = x := by rw [List.getD_eq_getElem?_getD, hx]; rfl
          rw [e1, e2] at hN
          have HN := Lib.hid hN
          clear h hx hA1 hN hd ho1' ho2' ho3' hy e1 e2
          obtain ⟨i0, hi0, hz0, hz1, hz2⟩ := info_parts infoCode
          have hne : Value.ownBlock (.slice A1 n c1) ≠ some b := fun e => by have := (OR.block ho1 b e).1; omega
          have q0 : (0 : Int) ≤ (k : Int) := Int.natCast_nonneg _
          have q1 : IntKind.i64.wrap ((k : Int) + 1) = (k : Int) + 1 := IntWalk.i64_in _ (by omega)
          have q2 : (0 : Int) ≤ (k : Int) + 1 := by omega
          have q3 : ((k : Int) + 1).toNat = k + 1 := by omega
          have q4 : (k : Int) + 1 < (l.length : Int) := by omega
          have q5 : (k : Int) < (l.length : Int) := by omega
          have hbl : b < w1.heap.size := by have := hb2.size; omega
          have hsz := hb2.size
          go_wp2_with fail
          go_region_held3 (fun w' => w'.cell? ⟨b, off + (k + 1) * 4 + 1, none⟩ = some (.int .i64 y.a) ∧ w'.cell? ⟨b, off + (k + 1) * 4 + 2, none⟩ = some (.int .i64 y.b) ∧ w'.cell? ⟨b, off + k * 4 + 1, none⟩ = some (.int .i64 x.a))
            (first
              | go_keep
              | (go_split_ands
                 refine ⟨?_, ?_, ?_⟩ <;> (rw [hgrow.cell_far _ (by simp; omega) (Ne.symm hne)]; assumption)))
            ((refine step_append_lies _ (by rfl) _ _ _ (by rfl) w.heap.size 57 i0 _ 4 32 Tryz.underlying27 hi0 hz0 hz1 hz2 rfl (by omega) (.slice A1 n c1) n _ (by rfl) ((OR.alloc ho1 _).drew)
                ⟨w1.heap.size, 0, none⟩ 1 1 [.int .i64 7, .int .i64 y.a, .int .i64 y.b, .int .i64 x.a] (by rfl) (by rfl) (World.news_of_block (cs := #[.int .i64 7, .int .i64 y.a, .int .i64 y.b, .int .i64 x.a]) (t := 57) (fr := (0, 0)) (heap_alloc_new w1 _)) (by simp [Value.oneCell'])
                (by omega) (by unfold maxLen; omega) (by omega) (by simp; omega) (w1.heap.size + 1) (by simp) ?_; intro gg cap w3 ho2 hgrow hat hlt3))
          clear q0 q1 q2 q3 q4 q5
          go_wp2
          go_roundw
          case rel =>
            refine ⟨k + 3, _, m ++ [⟨7, y.a, y.b, x.a⟩], n + 1, cap, by omega, by go_num, rfl, by unfold OC; rw [cdsCells_append]; exact ho2, by omega, Lib.hid ?_, below_app hb2 hb2.size ho1 (Nat.le_refl _) (grown_drew hgrow)⟩
            rw [← HE.out, HN.out, List.append_assoc]
            rfl
          case measure => simp [intOf]; omega
      · obtain rfl : k = l.length := by omega
        go_wp2
        go_ret
        rw [HU.out]
        refine RetC.of ?_ hb
        have := HE.out
        rw [List.drop_length] at this
        simp only [picked, List.append_nil] at this
        rw [← this]
        exact ho

end Go.Proofs.YtakeacndmnnbmaaGreat
