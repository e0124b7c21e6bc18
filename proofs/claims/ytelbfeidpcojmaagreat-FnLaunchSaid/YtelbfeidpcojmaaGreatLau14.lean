/- Part 14 of what the claim needs. -/
import Derived.Test.YtelbfeidpcojmaaGreatLau2
import Derived.Test.YtelbfeidpcojmaaGreatLau6
import Derived.Test.YtelbfeidpcojmaaGreatLau7
import Derived.Test.YtelbfeidpcojmaaGreatLau8
import Derived.Test.YtelbfeidpcojmaaGreatLau11
import Derived.Deep.RegionHeld3
import Derived.Deep.AppendLies
import Derived.IntWalk
namespace Go.Proofs.YtelbfeidpcojmaaGreat
open Go.RowKit
set_option linter.unusedVariables false
set_option linter.unusedSimpArgs false

set_option maxRecDepth 100000 in
set_option maxHeartbeats 4000000 in
theorem iRunLockO_c (A Am : Option Addr) (ca cm : Nat) (l : List Cd) (n : Int) (mem : List Int) (w : World) (hA : RdC w w.heap.size A l) (hM : RdI w w.heap.size Am mem) (hl : l.length ≤ 1000000000) (hml : mem.length ≤ 1000000000) :
    Calls Tryz.prog 41 #[.slice A l.length ca, .int .i64 n, .slice Am mem.length cm] w fun e w' => ∃ (M : Option Addr) (c : Nat), e = .returned (.tuple #[.slice M (runOf l n mem).length c, .bool (wholeOf l n mem)]) ∧ OwI w' w.heap.size M (runOf l n mem).length c (runOf l n mem) ∧ Below w.heap.size w w' := by
  go_enter Tryz.func41, Tryz.ntmps41
  go_wp2_with fail
  refine (runLock_c A Am ca cm l n mem w hA hM hl hml).mono ?_
  rintro e w1 (⟨hok, hr⟩ | ⟨hok, rfl, hb1⟩)
  · obtain ⟨z, T, tc, U, uc, rfl, hzB, hzl, hzn, hS, hb1⟩ := hr
    have hn := hok
    simp only [lockOk, Bool.and_eq_true] at hn
    have hn1 := inR_iff.1 hn.2.1
    have hr1 : runOf l n mem = (lockS l n.toNat mem).mem := by simp [runOf, hok]
    have hw1 : wholeOf l n mem = !splitB l n.toNat (lockS l n.toNat mem).beats := by simp [wholeOf, hok]
    have hlen := trace_len hn.1 n.toNat mem
    have hin : ∀ q ∈ (lockS l n.toNat mem).beats, q.1 < z.l.length ∧ q.2 < 256 := fun q hq => by rw [hzl]; exact lock_in hok q hq
    have hsp := Lib.hid (split_c hS hin hlen (by rw [hzl]; exact hl) (by omega) (by rw [hzB]; exact hb1.size))
    have hs1 : w.heap.size ≤ w1.heap.size := hb1.size
    have HW := Lib.hid hw1
    have HZ := Lib.hid (show splitB z.l z.n (lockS l n.toNat mem).beats = splitB l n.toNat (lockS l n.toNat mem).beats by rw [hzl, hzn])
    have HR1 := Lib.hid hr1
    have HS := Lib.hid hS
    clear hS hok hn hzn hlen hin hr1 hw1 hzl
    go_wp2_with fail
    refine hsp.out.mono ?_
    rintro e w2 ⟨p, m, rfl, hb2⟩
    have hbw := below_trans hb1 (Nat.le_refl _) hb2
    have hS2 := HS.out.ext (Ext.of_below hb2) (by rw [hzB]; exact hs1)
    obtain ⟨-, -, c2, -, -, -, -⟩ := hS2.cells
    have hmem2 := hS2.mem
    rw [hzB] at hmem2
    have HM := Lib.hid hmem2
    clear hmem2
    rw [HZ.out] 
    have hX := Ext.alloc w2 (.cells #[.int .i64 p, .int .i64 m] 78)
    have c3 := hX.cell c2
    have HM2 := Lib.hid (OR.ext HM.out hX)
    have hbX : Below w.heap.size w (w2.alloc (.cells #[.int .i64 p, .int .i64 m] 78)) := hbw.alloc hbw.size _
    clear hS2 c2
    go_wp2
    go_ret2
    rw [HR1.out, HW.out]
    exact ⟨_, _, rfl, .inr HM2.out, hbX⟩
  · have hr1 : runOf l n mem = [] := by simp [runOf, hok]
    have hw1 : wholeOf l n mem = false := by simp [wholeOf, hok]
    have HR1 := Lib.hid hr1
    have HW := Lib.hid hw1
    clear hr1 hw1 hok
    go_wp2
    go_ret2
    rw [HR1.out, HW.out]
    exact ⟨none, 0, rfl, .inl ⟨rfl, rfl⟩, hb1⟩

set_option maxRecDepth 100000 in
set_option maxHeartbeats 4000000 in
theorem sRunLockO_c (A Am : Option Addr) (ca cm : Nat) (l : List Cd) (n : Int) (mem : List Int) (w : World) (hA : RdC w w.heap.size A l) (hM : RdI w w.heap.size Am mem) (hl : l.length ≤ 1000000000) (hml : mem.length ≤ 1000000000) :
    Calls Tryz.prog 44 #[.slice A l.length ca, .int .i64 n, .slice Am mem.length cm] w fun e w' => ∃ (M : Option Addr) (c : Nat), e = .returned (.tuple #[.slice M (runOf l n mem).length c, .bool (wholeOf l n mem)]) ∧ OwI w' w.heap.size M (runOf l n mem).length c (runOf l n mem) ∧ Below w.heap.size w w' := by
  cases hok : lockOk l n mem with
  | false =>
    have hr1 : runOf l n mem = [] := by simp [runOf, hok]
    have hw1 : wholeOf l n mem = false := by simp [wholeOf, hok]
    have HR1 := Lib.hid hr1
    have HW := Lib.hid hw1
    clear hr1 hw1
    go_enter Tryz.func44, Tryz.ntmps44
    go_wp2_with fail
    refine (sl8Ok_c A Am ca cm l n mem w hA hM hl hml).mono ?_
    rintro e w1 ⟨rfl, hb1⟩
    rw [hok]
    go_wp2
    go_ret2
    rw [HR1.out, HW.out]
    exact ⟨_, _, rfl, .inr (OI.empty_ w1 w.heap.size hb1.size), hb1.alloc hb1.size _⟩
  | true =>
    have h' := hok
    simp only [lockOk, Bool.and_eq_true] at h'
    obtain ⟨hp, hin, hmem⟩ := h'
    obtain ⟨k, rfl⟩ : ∃ k : Nat, n = (k : Int) := ⟨n.toNat, by have := (inR_iff.1 hin).1; omega⟩
    have hk1 : 1 ≤ k := by have := (inR_iff.1 hin).1; omega
    have hk8 : k ≤ 8 := by have := (inR_iff.1 hin).2; omega
    have HR1 := Lib.hid (show runOf l k mem = (runT (treeOf l) k mem).mem by simp [runOf, hok, lockS])
    have HW := Lib.hid (show wholeOf l k mem = !splitB l k (runT (treeOf l) k mem).beats by simp [wholeOf, hok, lockS])
    obtain ⟨hm0, hm1, hm2⟩ := memOk_iff.1 hmem
    obtain ⟨ht1, ht2⟩ := treeOf_spec hp
    have h40 := (pv_iff.1 hp).1
    have HT1 := Lib.hid ht1
    have HT2 := Lib.hid ht2
    clear ht1 ht2
    go_enter Tryz.func44, Tryz.ntmps44
    go_wp2_with fail
    refine (sl8Ok_c A Am ca cm l k mem w hA hM hl hml).mono ?_
    rintro e w1 ⟨rfl, hb1⟩
    rw [hok]
    have HH := Lib.hid (And.intro hok (And.intro hp (And.intro hin hmem)))
    clear hok hp hin hmem
    go_wp2_with fail
    refine (l8All_c A Am ca cm l k mem (treeOf l) w1 ((hA.below hb1).more hb1.size) ((hM.below hb1).more hb1.size) HT1.out HT2.out.symm (pv_all HH.out.2.1) h40 hk1 hk8 hm0 hm1 hm2).mono ?_
    rintro e w2 ⟨z, T, tc, rfl, hzB, hzl, hzn, hS, hb2⟩
    obtain ⟨-, -, -, c3, -, c5, -⟩ := hS.cells
    have hmem2 := hS.mem
    rw [hzB] at hmem2
    have HM := Lib.hid (OR.mono hmem2 hb1.size)
    clear hmem2
    have hb3 := below_trans hb1 (Nat.le_refl _) hb2
    generalize splitB l k (runT (treeOf l) k mem).beats = sb at *
    generalize (runT (treeOf l) k mem) = S at *
    clear hS
    go_wp2_with fail
    go_quiet (fail)
    go_wp2
    go_ret2
    rw [HR1.out, HW.out]
    exact ⟨_, _, rfl, .inr (OR.ext HM.out ⟨rfl, rfl, rfl, Nat.le_refl _, fun _ _ => rfl⟩), hb3.trans ⟨rfl, rfl, rfl, Nat.le_refl _, fun _ _ => rfl⟩⟩


def canPick (l : List Cd) (k : Int) : Bool := pv l && (inR k 0 (l.length - 3) && pickB l k.toNat)

theorem sCanPick_c (A : Option Addr) (c : Nat) (l : List Cd) (k : Int) (w : World) (hA : RdC w w.heap.size A l) (hl : l.length ≤ 1000000000) :
    Calls Tryz.prog 118 #[.slice A l.length c, .int .i64 k] w fun e w' => e = .returned (.bool (canPick l k)) ∧ Below w.heap.size w w' := by
  cases hp : pv l with
  | false =>
    go_enter Tryz.func118, Tryz.ntmps118
    go_wp2_with fail
    refine (sProgramValid_c A c l w hA hl).mono ?_
    rintro e w1 ⟨rfl, hb⟩
    go_wp2
    go_ret
    exact ⟨retb (by simp [canPick, hp]), hb⟩
  | true =>
    cases hr : inR k 0 (l.length - 3) with
    | false =>
      go_enter Tryz.func118, Tryz.ntmps118
      go_wp2_with fail
      refine (sProgramValid_c A c l w hA hl).mono ?_
      rintro e w1 ⟨rfl, hb⟩
      go_wp2_with (go_at_call 33; refine (l1In_c _ _ _ _).mono ?_; rintro e w' ⟨rfl, rfl⟩)
      go_ret
      exact ⟨retb (by simp [canPick, hr]), hb⟩
    | true =>
      obtain ⟨hr1, hr2⟩ := inR_iff.1 hr
      obtain ⟨n, rfl⟩ := Int.eq_ofNat_of_zero_le hr1
      have hn : n + 2 < l.length := by omega
      go_enter Tryz.func118, Tryz.ntmps118
      go_wp2_with fail
      refine (sProgramValid_c A c l w hA hl).mono ?_
      rintro e w1 ⟨rfl, hb⟩
      obtain ⟨b, off, x, rfl, hbB, hx, c0, -, -, -⟩ := (hA.below hb).at_ (show n < l.length by omega)
      have hy : l[n + 1]? = some (l[n + 1]'(by omega)) := List.getElem?_eq_getElem (by omega)
      have hz : l[n + 2]? = some (l[n + 2]'(by omega)) := List.getElem?_eq_getElem (by omega)
      generalize l[n + 1]'(by omega) = y at hy
      generalize l[n + 2]'(by omega) = z at hz
      have d0 := ((hA.below hb).at0 hy).2.1
      have e0 := ((hA.below hb).at0 hz).2.1
      have hpk : pickB l n = (x.op == 11 && y.op == 5 && z.op == 14) := by simp [pickB, opAt, hx, hy, hz]
      have HK := Lib.hid hpk
      have HX := Lib.hid (And.intro hx (And.intro hy hz))
      clear hx hy hz hpk hr1
      go_wp2_with (go_at_call 33; refine (l1In_c _ _ _ _).mono ?_; rintro e w' ⟨rfl, rfl⟩)
      all_goals go_ret
      all_goals refine ⟨retb ?_, hb⟩
      all_goals (unfold canPick; rw [Int.toNat_natCast, HK.out, hp, hr]; simp_all)

theorem pickB_short {l : List Cd} {n : Nat} (h : ¬ n + 2 < l.length) : pickB l n = false := by
  have : opAt l (n + 2) = 0 := by simp [opAt, List.getElem?_eq_none (show l.length ≤ n + 2 by omega)]
  simp [pickB, this]

theorem iCanPick0_c (A : Option Addr) (c n : Nat) (l : List Cd) (w : World) (hA : RdC w w.heap.size A l) (hl : l.length ≤ 1000000000) (hn : n ≤ l.length) :
    Calls Tryz.prog 111 #[.slice A l.length c, .int .i64 n] w fun e w' => e = .returned (.bool (pickB l n)) ∧ Below w.heap.size w w' := by
  by_cases h3 : n + 2 < l.length
  · obtain ⟨b, off, x, rfl, hbB, hx, c0, -, -, -⟩ := hA.at_ (show n < l.length by omega)
    have hy : l[n + 1]? = some (l[n + 1]'(by omega)) := List.getElem?_eq_getElem (by omega)
    have hz : l[n + 2]? = some (l[n + 2]'(by omega)) := List.getElem?_eq_getElem (by omega)
    generalize l[n + 1]'(by omega) = y at hy
    generalize l[n + 2]'(by omega) = z at hz
    have d0 := (hA.at0 hy).2.1
    have e0 := (hA.at0 hz).2.1
    have hpk : pickB l n = (x.op == 11 && y.op == 5 && z.op == 14) := by simp [pickB, opAt, hx, hy, hz]
    have HK := Lib.hid hpk
    clear hx hy hz hpk
    go_enter Tryz.func111, Tryz.ntmps111
    go_wp2
    all_goals go_ret
    all_goals refine ⟨retb ?_, Below.refl _ _⟩
    all_goals (rw [HK.out]; simp_all)
  · go_enter Tryz.func111, Tryz.ntmps111
    go_wp2
    go_ret
    exact ⟨retb (pickB_short h3).symm, Below.refl _ _⟩

theorem grown_drew {w w' : World} {row : Option Nat} (h : w.drew.grownBy w' row) : w.grownBy w' row := ⟨h.os, h.tape, h.output, h.size, h.block⟩

theorem canPick_nat (l : List Cd) (k : Nat) : canPick l (k : Int) = (pv l && pickB l k) := by
  unfold canPick
  rw [Int.toNat_natCast]
  by_cases h : k + 2 < l.length
  · have : inR (k : Int) 0 ((l.length : Int) - 3) = true := by rw [inR_iff]; omega
    rw [this, Bool.true_and]
  · rw [pickB_short h]; simp

def SURel (w : World) (l : List Cd) (ov iv : Value) (wr : World) : Prop :=
  ∃ (k : Nat) (A : Option Addr) (m : List Cd) (n c : Nat), k ≤ l.length ∧ iv = .int .i64 k ∧ ov = .slice A n c ∧ OC wr w.heap.size A n c m ∧ n ≤ k ∧ Hid (m ++ picked (l.drop k) = picked l) ∧ Below w.heap.size w wr

set_option maxHeartbeats 1000000 in
theorem iusePicks_c (A : Option Addr) (c : Nat) (l : List Cd) (w : World) (hA : RdC w w.heap.size A l) (hl : l.length ≤ 1000000000) :
    Calls Tryz.prog 74 #[.slice A l.length c] w (RetC w (picked l)) := by
  go_enter Tryz.func74, Tryz.ntmps74
  go_wp2
  go_loopw [3, 4] (fun ov iv wr => SURel w l ov iv wr) (fun _ i _ => l.length - (intOf i).toNat)
  case atStart => exact ⟨0, _, [], 0, 0, Nat.zero_le _, rfl, rfl, OC.nil_ _ _, Nat.le_refl _, rfl, (by repeat (first | exact Below.refl _ _ | assumption | refine Below.alloc ?_ (by simp <;> omega) _ | refine Below.setCell ?_ (by simp <;> omega) _ | refine Below.drew ?_))⟩
  case round =>
    obtain ⟨k, A1, m, n, c1, hk, rfl, rfl, ho, hn, HE, hb⟩ := hrel
    by_cases hlt : k < l.length
    · go_wp2_with fail
      refine (iCanPick0_c A c k l wr ((hA.below hb).more hb.size) hl hk).mono ?_
      rintro e w1 ⟨rfl, hb1⟩
      have ho1 := ho.below hb1 (Nat.le_refl _)
      have hb2 := below_trans hb (Nat.le_refl _) hb1
      have hA1 := hA.below hb2
      cases h : pickB l k with
      | false =>
        have HN := Lib.hid (picked_no h hlt ⟨0, 0, 0, 0⟩)
        obtain ⟨b, off, x, rfl, hbB, hx, c0, c1', c2, c3⟩ := hA1.at_ hlt
        have HX := Lib.hid hx
        clear h hx hA1
        go_wp2_with (at_builtin; refine app_code rfl _ _ rfl w.heap.size _ _ _ _ (ho1.alloc _) rfl x w1.heap.size 1 rfl ?h0 ?h1 ?h2 ?h3 ?hn ?hbase ?_)
        case h0 => simp [go_sem]
        case h1 => simp [go_sem]
        case h2 => simp [go_sem]
        case h3 => simp [go_sem]
        case hn => omega
        case hbase => have := hb2.size; simp [World.drew]; omega
        intro A' c' w3 ho2 hg2
        go_wp2
        go_roundw
        case rel =>
          refine ⟨k + 1, A', m ++ [x], n + 1, c', by omega, by go_num, rfl, ho2, by omega, Lib.hid ?_, below_app hb2 hb2.size ho1 (Nat.le_refl _) hg2⟩
          have h1 := HN.out
          have h2 : l.getD k ⟨0, 0, 0, 0⟩ = x := by rw [List.getD_eq_getElem?_getD, HX.out]; rfl
          rw [h2] at h1
          rw [← HE.out, h1, List.append_assoc]
          rfl
        case measure => simp [intOf]; omega
      | true =>
        have hN := picked_yes h ⟨0, 0, 0, 0⟩
        obtain ⟨x0, y0, z0, r0, hd, ho1', ho2', ho3', hk3⟩ := pickB_true h
        obtain ⟨b, off, x, rfl, hbB, hx, c0, c1', c2, c3⟩ := hA1.at_ hlt
        have hy : l[k + 1]? = some (l[k + 1]'(by omega)) := List.getElem?_eq_getElem (by omega)
        generalize l[k + 1]'(by omega) = y at hy
        obtain ⟨-, d0, d1, d2, d3⟩ := hA1.at0 hy
        have e1 : l.getD (k + 1) ⟨0, 0, 0, 0⟩ = y := by rw [List.getD_eq_getElem?_getD, hy]; rfl
        have e2 : l.getD k ⟨0, 0, 0, 0⟩ = x := by rw [List.getD_eq_getElem?_getD, hx]; rfl
        rw [e1, e2] at hN
        have HN := Lib.hid hN
        clear h hx hA1 hN hd ho1' ho2' ho3' hy e1 e2
        obtain ⟨i0, hi0, hz0, hz1, hz2⟩ := info_parts infoCode
        have hne : Value.ownBlock (.slice A1 n c1) ≠ some b := fun e => by have := (OR.block ho1 b e).1; omega
        have q0 : (0 : Int) ≤ (k : Int) := Int.natCast_nonneg _
        have q1 : IntKind.i64.wrap ((k : Int) + 1) = (k : Int) + 1 := IntWalk.i64_in _ (by omega)
        have q2 : (0 : Int) ≤ (k : Int) + 1 := by omega
        have q3 : ((k : Int) + 1).toNat = k + 1 := by omega
        have q4 : (k : Int) + 1 < (l.length : Int) := by omega
        have q5 : (k : Int) < (l.length : Int) := by omega
        have hbl : b < w1.heap.size := by have := hb2.size; omega
        have hsz := hb2.size
        go_wp2_with fail
        go_region_held3 (fun w' => w'.cell? ⟨b, off + (k + 1) * 4 + 1, none⟩ = some (.int .i64 y.a) ∧ w'.cell? ⟨b, off + (k + 1) * 4 + 2, none⟩ = some (.int .i64 y.b) ∧ w'.cell? ⟨b, off + k * 4 + 1, none⟩ = some (.int .i64 x.a))
          (first
            | go_keep
            | (go_split_ands
               refine ⟨?_, ?_, ?_⟩ <;> (rw [hgrow.cell_far _ (by simp; omega) (Ne.symm hne)]; assumption)))
          ((refine step_append_lies _ (by rfl) _ _ _ (by rfl) w.heap.size 76 i0 _ 4 32 Tryz.underlying23 hi0 hz0 hz1 hz2 rfl (by omega) (.slice A1 n c1) n _ (by rfl) ((OR.alloc ho1 _).drew)
              ⟨w1.heap.size, 0, none⟩ 1 1 [.int .i64 7, .int .i64 y.a, .int .i64 y.b, .int .i64 x.a] (by rfl) (by rfl) (World.news_of_block (cs := #[.int .i64 7, .int .i64 y.a, .int .i64 y.b, .int .i64 x.a]) (t := 76) (fr := (0, 0)) (heap_alloc_new w1 _)) (by simp [Value.oneCell'])
              (by omega) (by unfold maxLen; omega) (by omega) (by simp; omega) (w1.heap.size + 1) (by simp) ?_; intro gg cap w3 ho2 hgrow hat hlt3))
        clear q0 q1 q2 q3 q4 q5
        go_wp2
        go_roundw
        case rel =>
          refine ⟨k + 3, _, m ++ [⟨7, y.a, y.b, x.a⟩], n + 1, cap, by omega, by go_num, rfl, by unfold OC; rw [cdsCells_append]; exact ho2, by omega, Lib.hid ?_, below_app hb2 hb2.size ho1 (Nat.le_refl _) (grown_drew hgrow)⟩
          rw [← HE.out, HN.out, List.append_assoc]
          rfl
        case measure => simp [intOf]; omega
    · obtain rfl : k = l.length := by omega
      go_wp2
      go_ret
      refine RetC.of ?_ hb
      have := HE.out
      rw [List.drop_length] at this
      simp only [picked, List.append_nil] at this
      rw [← this]
      exact ho

def usePicksL (l : List Cd) : List Cd := if pv l then picked l else []

set_option maxHeartbeats 2000000 in
theorem sUsePicks_c (A : Option Addr) (c : Nat) (l : List Cd) (w : World) (hA : RdC w w.heap.size A l) (hl : l.length ≤ 1000000000) :
    Calls Tryz.prog 79 #[.slice A l.length c] w (RetC w (usePicksL l)) := by
  cases hp : pv l with
  | false =>
    have HU := Lib.hid (show usePicksL l = [] by simp [usePicksL, hp])
    go_enter Tryz.func79, Tryz.ntmps79
    go_wp2
    go_loopw [3, 4] (fun ov iv wr => ∃ (A1 : Option Addr) (c1 : Nat), iv = .int .i64 0 ∧ ov = .slice A1 0 c1 ∧ OC wr w.heap.size A1 0 c1 [] ∧ Below w.heap.size w wr) (fun _ _ _ => 0)
    case atStart => exact ⟨_, _, rfl, rfl, OC.empty_ w _ (Nat.le_refl _), (by repeat (first | exact Below.refl _ _ | assumption | refine Below.alloc ?_ (by simp <;> omega) _ | refine Below.setCell ?_ (by simp <;> omega) _ | refine Below.drew ?_))⟩
    case round =>
      obtain ⟨A1, c1, rfl, rfl, ho, hb⟩ := hrel
      by_cases hlt : 0 < l.length
      · go_wp2_with fail
        refine (sProgramValid_c A c l wr ((hA.below hb).more hb.size) hl).mono ?_
        rintro e w1 ⟨rfl, hb1⟩
        go_wp2
        go_ret
        rw [HU.out]
        exact RetC.of (OR.below ho hb1 (Nat.le_refl _)) (below_trans hb (Nat.le_refl _) hb1)
      · have h0 : ¬ (0 : Int) < (l.length : Int) := by omega
        go_wp2
        go_ret
        rw [HU.out]
        exact RetC.of ho hb
  | true =>
    have HU := Lib.hid (show usePicksL l = picked l by simp [usePicksL, hp])
    go_enter Tryz.func79, Tryz.ntmps79
    go_wp2
    go_loopw [3, 4] (fun ov iv wr => SURel w l ov iv wr) (fun _ i _ => l.length - (intOf i).toNat)
    case atStart => exact ⟨0, _, [], 0, 0, Nat.zero_le _, rfl, rfl, OC.empty_ w _ (Nat.le_refl _), Nat.le_refl _, rfl, (by repeat (first | exact Below.refl _ _ | assumption | refine Below.alloc ?_ (by simp <;> omega) _ | refine Below.setCell ?_ (by simp <;> omega) _ | refine Below.drew ?_))⟩
    case round =>
      obtain ⟨k, A1, m, n, c1, hk, rfl, rfl, ho, hn, HE, hb⟩ := hrel
      by_cases hlt : k < l.length
      · go_wp2_with fail
        refine (sProgramValid_c A c l wr ((hA.below hb).more hb.size) hl).mono ?_
        rintro e w0 ⟨rfl, hb0⟩
        have ho0 := ho.below hb0 (Nat.le_refl _)
        have hb' := below_trans hb (Nat.le_refl _) hb0
        go_wp2_with fail
        refine (sCanPick_c A c l k w0 ((hA.below hb').more hb'.size) hl).mono ?_
        rintro e w1 ⟨rfl, hb1⟩
        have ho1 := ho0.below hb1 (Nat.le_refl _)
        have hb2 := below_trans hb' (Nat.le_refl _) hb1
        have hA1 := hA.below hb2
        have hcp := canPick_nat l k
        rw [hp, Bool.true_and] at hcp
        rw [hcp]
        clear hcp ho0
        have HP := Lib.hid hp
        clear hp
        cases h : pickB l k with
        | false =>
          have HN := Lib.hid (picked_no h hlt ⟨0, 0, 0, 0⟩)
          obtain ⟨b, off, x, rfl, hbB, hx, c0, c1', c2, c3⟩ := hA1.at_ hlt
          have HX := Lib.hid hx
          clear h hx hA1
          go_wp2_with (at_builtin; refine app_code rfl _ _ rfl w.heap.size _ _ _ _ (ho1.alloc _) rfl x w1.heap.size 1 rfl ?h0 ?h1 ?h2 ?h3 ?hn ?hbase ?_)
          case h0 => simp [go_sem]
          case h1 => simp [go_sem]
          case h2 => simp [go_sem]
          case h3 => simp [go_sem]
          case hn => omega
          case hbase => have := hb2.size; simp; omega
          intro A' c' w3 ho2 hg2
          go_wp2
          go_roundw
          case rel =>
            refine ⟨k + 1, A', m ++ [x], n + 1, c', by omega, by go_num, rfl, ho2, by omega, Lib.hid ?_, below_app hb2 hb2.size ho1 (Nat.le_refl _) hg2⟩
            have h1 := HN.out
            have h2 : l.getD k ⟨0, 0, 0, 0⟩ = x := by rw [List.getD_eq_getElem?_getD, HX.out]; rfl
            rw [h2] at h1
            rw [← HE.out, h1, List.append_assoc]
            rfl
          case measure => simp [intOf]; omega
        | true =>
          have hN := picked_yes h ⟨0, 0, 0, 0⟩
          obtain ⟨x0, y0, z0, r0, hd, ho1', ho2', ho3', hk3⟩ := pickB_true h
          obtain ⟨b, off, x, rfl, hbB, hx, c0, c1', c2, c3⟩ := hA1.at_ hlt
          have hy : l[k + 1]? = some (l[k + 1]'(by omega)) := List.getElem?_eq_getElem (by omega)
          generalize l[k + 1]'(by omega) = y at hy
          obtain ⟨-, d0, d1, d2, d3⟩ := hA1.at0 hy
          have e1 : l.getD (k + 1) ⟨0, 0, 0, 0⟩ = y := by rw [List.getD_eq_getElem?_getD, hy]; rfl
          have e2 : l.getD k ⟨0, 0, 0, 0⟩ = x := by rw [List.getD_eq_getElem?_getD, hx]; rfl
          rw [e1, e2] at hN
          have HN := Lib.hid hN
          clear h hx hA1 hN hd ho1' ho2' ho3' hy e1 e2
          obtain ⟨i0, hi0, hz0, hz1, hz2⟩ := info_parts infoCode
          have hne : Value.ownBlock (.slice A1 n c1) ≠ some b := fun e => by have := (OR.block ho1 b e).1; omega
          have q0 : (0 : Int) ≤ (k : Int) := Int.natCast_nonneg _
          have q1 : IntKind.i64.wrap ((k : Int) + 1) = (k : Int) + 1 := IntWalk.i64_in _ (by omega)
          have q2 : (0 : Int) ≤ (k : Int) + 1 := by omega
          have q3 : ((k : Int) + 1).toNat = k + 1 := by omega
          have q4 : (k : Int) + 1 < (l.length : Int) := by omega
          have q5 : (k : Int) < (l.length : Int) := by omega
          have hbl : b < w1.heap.size := by have := hb2.size; omega
          have hsz := hb2.size
          go_wp2_with fail
          go_region_held3 (fun w' => w'.cell? ⟨b, off + (k + 1) * 4 + 1, none⟩ = some (.int .i64 y.a) ∧ w'.cell? ⟨b, off + (k + 1) * 4 + 2, none⟩ = some (.int .i64 y.b) ∧ w'.cell? ⟨b, off + k * 4 + 1, none⟩ = some (.int .i64 x.a))
            (first
              | go_keep
              | (go_split_ands
                 refine ⟨?_, ?_, ?_⟩ <;> (rw [hgrow.cell_far _ (by simp; omega) (Ne.symm hne)]; assumption)))
            ((refine step_append_lies _ (by rfl) _ _ _ (by rfl) w.heap.size 76 i0 _ 4 32 Tryz.underlying23 hi0 hz0 hz1 hz2 rfl (by omega) (.slice A1 n c1) n _ (by rfl) ((OR.alloc ho1 _).drew)
                ⟨w1.heap.size, 0, none⟩ 1 1 [.int .i64 7, .int .i64 y.a, .int .i64 y.b, .int .i64 x.a] (by rfl) (by rfl) (World.news_of_block (cs := #[.int .i64 7, .int .i64 y.a, .int .i64 y.b, .int .i64 x.a]) (t := 76) (fr := (0, 0)) (heap_alloc_new w1 _)) (by simp [Value.oneCell'])
                (by omega) (by unfold maxLen; omega) (by omega) (by simp; omega) (w1.heap.size + 1) (by simp) ?_; intro gg cap w3 ho2 hgrow hat hlt3))
          clear q0 q1 q2 q3 q4 q5
          go_wp2
          go_roundw
          case rel =>
            refine ⟨k + 3, _, m ++ [⟨7, y.a, y.b, x.a⟩], n + 1, cap, by omega, by go_num, rfl, by unfold OC; rw [cdsCells_append]; exact ho2, by omega, Lib.hid ?_, below_app hb2 hb2.size ho1 (Nat.le_refl _) (grown_drew hgrow)⟩
            rw [← HE.out, HN.out, List.append_assoc]
            rfl
          case measure => simp [intOf]; omega
      · obtain rfl : k = l.length := by omega
        go_wp2
        go_ret
        rw [HU.out]
        refine RetC.of ?_ hb
        have := HE.out
        rw [List.drop_length] at this
        simp only [picked, List.append_nil] at this
        rw [← this]
        exact ho


theorem cd_kept {w w1 : World} {x : Cd} {t : TypeId} (hb : Below (w.heap.size + 1) (w.alloc (.cells #[.int .i64 x.op, .int .i64 x.a, .int .i64 x.b, .int .i64 x.c] t)) w1) :
    w1.cell? ⟨w.heap.size, 0, none⟩ = some (.int .i64 x.op) ∧ w1.cell? ⟨w.heap.size, 1, none⟩ = some (.int .i64 x.a) ∧
    w1.cell? ⟨w.heap.size, 2, none⟩ = some (.int .i64 x.b) ∧ w1.cell? ⟨w.heap.size, 3, none⟩ = some (.int .i64 x.c) := by
  obtain ⟨h0, h1, h2, h3⟩ := cd_cells w x t
  have hb' : Below (w.alloc (.cells #[.int .i64 x.op, .int .i64 x.a, .int .i64 x.b, .int .i64 x.c] t)).heap.size (w.alloc (.cells #[.int .i64 x.op, .int .i64 x.a, .int .i64 x.b, .int .i64 x.c] t)) w1 := by simpa using hb
  exact ⟨cell_kept hb' h0, cell_kept hb' h1, cell_kept hb' h2, cell_kept hb' h3⟩

section
variable {o : Int} {a b c : Nat}
theorem shl4 {b : Nat} (h : b ≤ 3) : wrap64 (2 ^ b) = ((2 ^ b : Nat) : Int) := wrap64_pow b (by omega)
theorem shl4' {b : Nat} (h : b ≤ 3) : wrap64 (2 ^ min b 64) = ((2 ^ b : Nat) : Int) := by
  rw [Nat.min_eq_left (by omega)]; exact shl4 h
theorem sm4 {b : Nat} (h : b ≤ 3) : 2 ^ b < 4611686018427387904 := pow_small b (by omega)
theorem cv3 (hv : cvOk ⟨o, a, b, c⟩ = true) : a ≤ 3 ∧ c ≤ 3 := by
  have := cvOk_a hv; have := cvOk_c hv; simp only at *; omega
theorem cv3b (hv : cvOk ⟨o, a, b, c⟩ = true) (h : o = 3 ∨ o = 4 ∨ o = 5 ∨ o = 6 ∨ o = 7 ∨ o = 8 ∨ o = 9) : b ≤ 3 := by
  have := cvOk_b2 hv h; simp only at *; omega
theorem rdA (hv : cvOk ⟨o, a, b, c⟩ = true) (h : (o == 5) = true ∨ (o == 8) = true) : wrap64 (2 ^ min b 64) = ((reads ⟨o, a, b, c⟩ : Nat) : Int) := by
  have h' : o = 5 ∨ o = 8 := h.imp beq_iff_eq.1 beq_iff_eq.1
  rw [shl4' (cv3b hv (by omega))]
  rcases h' with rfl | rfl <;> simp [reads, hv]
theorem rdC (hv : cvOk ⟨o, a, b, c⟩ = true) (h : (o == 3) = true ∨ (o == 4) = true ∨ (o == 9) = true) : bits .or .i64 (wrap64 (2 ^ a)) (wrap64 (2 ^ min b 64)) = ((reads ⟨o, a, b, c⟩ : Nat) : Int) := by
  have h' : o = 3 ∨ o = 4 ∨ o = 9 := h.imp beq_iff_eq.1 (fun h => h.imp beq_iff_eq.1 beq_iff_eq.1)
  have hb := cv3b hv (by omega)
  have ha := (cv3 hv).1
  rw [shl4' hb, shl4 ha, bits_or64 _ _ (sm4 ha) (sm4 hb)]
  rcases h' with rfl | rfl | rfl <;> simp [reads, hv]
theorem rdD (hv : cvOk ⟨o, a, b, c⟩ = true) (h : (o == 6) = true) : bits .or .i64 (wrap64 (2 ^ min b 64)) (wrap64 (2 ^ c)) = ((reads ⟨o, a, b, c⟩ : Nat) : Int) := by
  obtain rfl : o = 6 := beq_iff_eq.1 h
  have hb := cv3b hv (by omega)
  have hc := (cv3 hv).2
  rw [shl4' hb, shl4 hc, bits_or64 _ _ (sm4 hb) (sm4 hc)]
  simp [reads, hv]
theorem rdE (hv : cvOk ⟨o, a, b, c⟩ = true) (h : (o == 7) = true) : bits .or .i64 (bits .or .i64 (wrap64 (2 ^ a)) (wrap64 (2 ^ min b 64))) (wrap64 (2 ^ c)) = ((reads ⟨o, a, b, c⟩ : Nat) : Int) := by
  obtain rfl : o = 7 := beq_iff_eq.1 h
  have hb := cv3b hv (by omega)
  obtain ⟨ha, hc⟩ := cv3 hv
  rw [shl4' hb, shl4 ha, shl4 hc, bits_or64 _ _ (sm4 ha) (sm4 hb), bits_or64 _ _ (Nat.or_lt_two_pow (n := 62) (sm4 ha) (sm4 hb)) (sm4 hc)]
  simp [reads, hv]
theorem rdF (hv : cvOk ⟨o, a, b, c⟩ = true) (h : (o == 11) = true ∨ (o == 13) = true) : wrap64 (2 ^ a) = ((reads ⟨o, a, b, c⟩ : Nat) : Int) := by
  have h' : o = 11 ∨ o = 13 := h.imp beq_iff_eq.1 beq_iff_eq.1
  rw [shl4 (cv3 hv).1]
  rcases h' with rfl | rfl <;> simp [reads, hv]
end

set_option maxRecDepth 100000 in
set_option maxHeartbeats 2000000 in
theorem sCodeReads_c (x : Cd) (w : World) :
    Calls Tryz.prog 140 #[x.val] w fun e w' => e = .returned (.int .i64 (reads x)) ∧ Below w.heap.size w w' := by
  cases hv : cvOk x with
  | false =>
    have HR := Lib.hid (show reads x = 0 by simp [reads, hv])
    unfold Cd.val
    go_enter Tryz.func140, Tryz.ntmps140
    go_wp2_with fail
    refine (sCodeValid_c x _).mono ?_
    rintro e w1 ⟨rfl, hb1⟩
    go_wp2
    go_ret
    exact ⟨reti (by rw [HR.out]; rfl), below_trans (Below.alloc (Below.refl _ _) (Nat.le_refl _) _) (by simp) hb1⟩
  | true =>
    have ha := cvOk_a hv
    have hb := cvOk_b hv
    have hc := cvOk_c hv
    have hb3 := cvOk_b2 hv
    have HB3 := Lib.hid hb3
    clear hb3
    obtain ⟨a, hae⟩ := Int.eq_ofNat_of_zero_le ha.1
    obtain ⟨b, hbe⟩ := Int.eq_ofNat_of_zero_le hb.1
    obtain ⟨c, hce⟩ := Int.eq_ofNat_of_zero_le hc.1
    obtain ⟨o, xa, xb, xc⟩ := x
    simp only at ha hb hc HB3 hae hbe hce
    subst hae hbe hce
    unfold Cd.val
    go_enter Tryz.func140, Tryz.ntmps140
    go_wp2_with fail
    refine (sCodeValid_c ⟨o, a, b, c⟩ _).mono ?_
    rintro e w1 ⟨rfl, hb1⟩
    obtain ⟨c0, c1, c2, c3⟩ := cd_kept (x := ⟨o, a, b, c⟩) (by simpa using hb1)
    simp only at c0 c1 c2 c3
    have hbw := below_trans (Below.alloc (Below.refl w.heap.size w) (Nat.le_refl _) (.cells #[.int .i64 o, .int .i64 a, .int .i64 b, .int .i64 c] 76)) (by simp) hb1
    go_wp2
    all_goals first | (go_ret; refine ⟨reti ?_, hbw⟩) | (go_quiet (fail); go_wp2; go_ret; refine ⟨reti ?_, hbw.trans ⟨rfl, rfl, rfl, Nat.le_refl _, fun _ _ => rfl⟩⟩)
    all_goals with_reducible first | exact rdA hv (.inl (by assumption)) | exact rdA hv (.inr (by assumption)) | exact rdC hv (.inl (by assumption)) | exact rdC hv (.inr (.inl (by assumption))) | exact rdC hv (.inr (.inr (by assumption))) | exact rdD hv (by assumption) | exact rdE hv (by assumption) | exact rdF hv (.inl (by assumption)) | exact rdF hv (.inr (by assumption)) | (simp [reads, *]; done)

set_option maxRecDepth 100000 in
set_option maxHeartbeats 400000 in
theorem sCodeWrites_c (x : Cd) (w : World) :
    Calls Tryz.prog 141 #[x.val] w fun e w' => e = .returned (.int .i64 (wreg x)) ∧ Below w.heap.size w w' := by
  cases hv : cvOk x with
  | false =>
    have HR := Lib.hid (show wreg x = -1 by simp [wreg, hv])
    unfold Cd.val
    go_enter Tryz.func141, Tryz.ntmps141
    go_wp2_with fail
    refine (sCodeValid_c x _).mono ?_
    rintro e w1 ⟨rfl, hb1⟩
    go_wp2
    go_ret
    exact ⟨reti (by rw [HR.out]), below_trans (Below.alloc (Below.refl _ _) (Nat.le_refl _) _) (by simp) hb1⟩
  | true =>
    unfold Cd.val
    go_enter Tryz.func141, Tryz.ntmps141
    go_wp2_with fail
    refine (sCodeValid_c x _).mono ?_
    rintro e w1 ⟨rfl, hb1⟩
    obtain ⟨c0, c1, c2, c3⟩ := cd_kept (x := x) (by simpa using hb1)
    have hbw := below_trans (Below.alloc (Below.refl w.heap.size w) (Nat.le_refl _) (.cells #[.int .i64 x.op, .int .i64 x.a, .int .i64 x.b, .int .i64 x.c] 76)) (by simp) hb1
    go_wp2_with fail
    cases hr : inR x.op 1 8 with
    | false =>
      have HR := Lib.hid (show wreg x = -1 by simp [wreg, hv, hr])
      go_wp2_with (go_at_call 33; refine (l1In_c _ _ _ _).mono ?_; rintro e w' ⟨rfl, rfl⟩)
      go_ret
      exact ⟨reti (by rw [HR.out]), hbw⟩
    | true =>
      have HR := Lib.hid (show wreg x = x.a by simp [wreg, hv, hr])
      go_wp2_with (go_at_call 33; refine (l1In_c _ _ _ _).mono ?_; rintro e w' ⟨rfl, rfl⟩)
      go_ret
      exact ⟨reti (by rw [HR.out]), hbw⟩

theorem op14 {x : Cd} (h : cvOk x = true) : x.op = 1 ∨ x.op = 2 ∨ x.op = 3 ∨ x.op = 4 ∨ x.op = 5 ∨ x.op = 6 ∨ x.op = 7 ∨ x.op = 8 ∨ x.op = 9 ∨ x.op = 10 ∨ x.op = 11 ∨ x.op = 12 ∨ x.op = 13 ∨ x.op = 14 := by
  have := cvOk_op h; omega

set_option maxRecDepth 100000 in
set_option maxHeartbeats 4000000 in
theorem iCodeReads_c (x : Cd) (w : World) :
    Calls Tryz.prog 132 #[x.val] w fun e w' => e = .returned (.int .i64 (reads x)) ∧ Below w.heap.size w w' := by
  cases hv : cvOk x with
  | false =>
    have HR := Lib.hid (show reads x = 0 by simp [reads, hv])
    unfold Cd.val
    go_enter Tryz.func132, Tryz.ntmps132
    go_wp2_with fail
    refine (iCodeValid_c x _).mono ?_
    rintro e w1 ⟨rfl, hb1⟩
    go_wp2
    go_ret
    exact ⟨reti (by rw [HR.out]; rfl), below_trans (Below.alloc (Below.refl _ _) (Nat.le_refl _) _) (by simp) hb1⟩
  | true =>
    have ha := cvOk_a hv
    have hb := cvOk_b hv
    have hc := cvOk_c hv
    have ho := op14 hv
    obtain ⟨a, hae⟩ := Int.eq_ofNat_of_zero_le ha.1
    obtain ⟨b, hbe⟩ := Int.eq_ofNat_of_zero_le hb.1
    obtain ⟨c, hce⟩ := Int.eq_ofNat_of_zero_le hc.1
    obtain ⟨o, xa, xb, xc⟩ := x
    simp only at ha hb hc hae hbe hce ho
    subst hae hbe hce
    unfold Cd.val
    have HV := Lib.hid hv
    clear hv
    rcases ho with rfl | rfl | rfl | rfl | rfl | rfl | rfl | rfl | rfl | rfl | rfl | rfl | rfl | rfl
    all_goals
      go_enter Tryz.func132, Tryz.ntmps132
      go_wp2_with fail
      refine (iCodeValid_c ⟨_, a, b, c⟩ _).mono ?_
      rintro e w1 ⟨rfl, hb1⟩
      rw [HV.out]
      obtain ⟨c0, c1, c2, c3⟩ := cd_kept (x := ⟨_, a, b, c⟩) (by simpa using hb1)
      simp only at c0 c1 c2 c3
      have hbw := below_trans (Below.alloc (Below.refl w.heap.size w) (Nat.le_refl _) (.cells #[.int .i64 _, .int .i64 a, .int .i64 b, .int .i64 c] 76)) (by simp) hb1
      go_wp2_with (go_at_call 119; refine (registers_c _ _).mono ?_; rintro e w' ⟨rfl, rfl⟩)
      go_ret
      refine ⟨reti ?_, hbw⟩
      first | ((with_reducible refine rdA HV.out ?_); decide) | ((with_reducible refine rdC HV.out ?_); decide) | ((with_reducible refine rdD HV.out ?_); decide) | ((with_reducible refine rdE HV.out ?_); decide) | ((with_reducible refine rdF HV.out ?_); decide) | (simp [reads]; done)

set_option maxHeartbeats 1000000 in
theorem iCodeWrites_c (x : Cd) (w : World) :
    Calls Tryz.prog 149 #[x.val] w fun e w' => e = .returned (.int .i64 (wreg x)) ∧ Below w.heap.size w w' := by
  cases hv : cvOk x with
  | false =>
    have HR := Lib.hid (show wreg x = -1 by simp [wreg, hv])
    unfold Cd.val
    go_enter Tryz.func149, Tryz.ntmps149
    go_wp2_with fail
    refine (iCodeValid_c x _).mono ?_
    rintro e w1 ⟨rfl, hb1⟩
    go_wp2
    go_ret
    exact ⟨reti (by rw [HR.out]), below_trans (Below.alloc (Below.refl _ _) (Nat.le_refl _) _) (by simp) hb1⟩
  | true =>
    have HV := Lib.hid hv
    unfold Cd.val
    go_enter Tryz.func149, Tryz.ntmps149
    go_wp2_with fail
    refine (iCodeValid_c x _).mono ?_
    rintro e w1 ⟨rfl, hb1⟩
    obtain ⟨c0, c1, c2, c3⟩ := cd_kept (x := x) (by simpa using hb1)
    have hbw := below_trans (Below.alloc (Below.refl w.heap.size w) (Nat.le_refl _) (.cells #[.int .i64 x.op, .int .i64 x.a, .int .i64 x.b, .int .i64 x.c] 76)) (by simp) hb1
    go_wp2
    all_goals go_ret
    all_goals refine ⟨reti ?_, hbw⟩
    all_goals clear hb1 hbw c0 c1 c2 c3 hv
    all_goals (have h14 := op14 HV.out; simp only [wreg, HV.out, Bool.true_and, inR]; simp_all; try omega)

theorem written_c (x : Cd) (w : World) :
    Calls Tryz.prog 133 #[x.val] w fun e w' => e = .returned (.int .i64 (wset x)) ∧ Below w.heap.size w w' := by
  by_cases hw : (cvOk x && inR x.op 1 8) = true
  · have e1 : wreg x = x.a := by simp only [wreg, hw, if_true]
    have e2 : wset x = 2 ^ x.a.toNat := by simp only [wset, hw, if_true]
    have ha := cvOk_a (by simp at hw; exact hw.1)
    obtain ⟨a, hae⟩ := Int.eq_ofNat_of_zero_le ha.1
    rw [hae] at e1 e2
    have h0 : ¬ ((a : Int) < 0) := by omega
    have h3 : a ≤ 3 := by omega
    have E2 := Lib.hid e2
    clear e2 hae ha hw
    unfold Cd.val
    go_enter Tryz.func133, Tryz.ntmps133
    go_wp2_with fail
    refine (iCodeWrites_c x _).mono ?_
    rintro e w1 ⟨rfl, hb1⟩
    rw [e1]
    clear e1
    go_wp2
    go_ret
    exact ⟨reti (by rw [E2.out, Int.toNat_natCast]; exact shl4 h3), below_trans (Below.alloc (Below.refl _ _) (Nat.le_refl _) _) (by simp) hb1⟩
  · have e1 : wreg x = -1 := by simp only [wreg, hw]; rfl
    have e2 : wset x = 0 := by simp only [wset, hw]; rfl
    have E2 := Lib.hid e2
    clear e2 hw
    unfold Cd.val
    go_enter Tryz.func133, Tryz.ntmps133
    go_wp2_with fail
    refine (iCodeWrites_c x _).mono ?_
    rintro e w1 ⟨rfl, hb1⟩
    rw [e1]
    clear e1
    go_wp2
    go_ret
    exact ⟨reti (by rw [E2.out]; rfl), below_trans (Below.alloc (Below.refl _ _) (Nat.le_refl _) _) (by simp) hb1⟩

/-- The union of what k instructions read and write. -/
theorem usedOf_take {l : List Cd} {k : Nat} {x : Cd} (h : l[k]? = some x) : usedOf (l.take (k + 1)) = usedOf (l.take k) ||| (reads x ||| wset x) := by
  obtain ⟨hk, rfl⟩ := List.getElem?_eq_some_iff.1 h
  unfold usedOf
  rw [List.take_succ_eq_append_getElem hk, List.foldl_append]
  rfl
theorem wset_wreg (x : Cd) : (0 ≤ wreg x ∧ wset x = 2 ^ (wreg x).toNat ∧ wreg x ≤ 3) ∨ (wreg x = -1 ∧ wset x = 0) := by
  unfold wreg wset
  split
  · rename_i h
    have := cvOk_a (by simp at h; exact h.1)
    exact .inl ⟨this.1, rfl, this.2⟩
  · exact .inr ⟨rfl, rfl⟩
theorem or16 {a b : Nat} (ha : a < 16) (hb : b < 16) : bits .or .i64 (a : Int) (b : Int) = ((a ||| b : Nat) : Int) := bits_or64 a b (by omega) (by omega)

set_option maxHeartbeats 2000000 in
theorem iregsUsed_c (A : Option Addr) (c : Nat) (l : List Cd) (w : World) (hA : RdC w w.heap.size A l) (hl : l.length ≤ 1000000000) :
    Calls Tryz.prog 107 #[.slice A l.length c] w fun e w' => e = .returned (.int .i64 (usedOf l)) ∧ Below w.heap.size w w' := by
  go_enter Tryz.func107, Tryz.ntmps107
  go_wp2
  go_loopw [3, 8] (fun sv iv wr => ∃ k : Nat, k ≤ l.length ∧ iv = .int .i64 k ∧ sv = .int .i64 (usedOf (l.take k)) ∧ Below w.heap.size w wr) (fun _ i _ => l.length - (intOf i).toNat)
  case atStart => exact ⟨0, Nat.zero_le _, rfl, rfl, Below.refl _ _⟩
  case round =>
    obtain ⟨k, hk, rfl, rfl, hb⟩ := hrel
    by_cases hlt : k < l.length
    · obtain ⟨b, off, x, rfl, hbB, hx, c0, c1, c2, c3⟩ := (hA.below hb).at_ hlt
      have HU := Lib.hid (usedOf_take hx)
      have u1 := usedOf_lt (l.take k)
      have hr := reads_lt x
      have hw := wset_lt x
      generalize usedOf (l.take k) = u at *
      clear hx
      have hsz := hb.size
      go_wp2_with fail
      obtain ⟨d0, d1, d2, d3⟩ := cd_cells wr x 76
      have hbw := hb.alloc hsz (.cells #[.int .i64 x.op, .int .i64 x.a, .int .i64 x.b, .int .i64 x.c] 76)
      have hz : wr.heap.size < (wr.alloc (.cells #[.int .i64 x.op, .int .i64 x.a, .int .i64 x.b, .int .i64 x.c] 76)).heap.size := by simp
      generalize hW : wr.alloc (.cells #[.int .i64 x.op, .int .i64 x.a, .int .i64 x.b, .int .i64 x.c] 76) = W1 at *
      clear hW c0 c1 c2 c3
      go_region_held3 (fun w' => w'.cell? ⟨wr.heap.size, 0, none⟩ = some (.int .i64 x.op) ∧ w'.cell? ⟨wr.heap.size, 1, none⟩ = some (.int .i64 x.a) ∧ w'.cell? ⟨wr.heap.size, 2, none⟩ = some (.int .i64 x.b) ∧ w'.cell? ⟨wr.heap.size, 3, none⟩ = some (.int .i64 x.c) ∧ Below w.heap.size w w' ∧ wr.heap.size < w'.heap.size)
        (first
          | (go_split_ands
             refine ⟨?_, ?_, ?_, ?_, ?_, ?_⟩
             · exact cell_kept hb2 (by assumption)
             · exact cell_kept hb2 (by assumption)
             · exact cell_kept hb2 (by assumption)
             · exact cell_kept hb2 (by assumption)
             · exact below_trans (by assumption) (Nat.le_refl _) hb2
             · exact Nat.lt_of_lt_of_le (by assumption) hb2.size)
          | (refine ⟨?_, ?_, ?_, ?_, ?_, ?_⟩
             · exact d0
             · exact d1
             · exact d2
             · exact d3
             · exact Below.drew hbw
             · exact hz))
        (first
          | (go_at_call 132; refine (iCodeReads_c x _).mono ?_; rintro e w2 ⟨rfl, hb2⟩)
          | (go_at_call 133; refine (written_c x _).mono ?_; rintro e w2 ⟨rfl, hb2⟩))
      rename_i hh
      obtain ⟨-, -, -, -, hb3, -⟩ := hh
      go_wp2
      go_roundw
      case rel =>
        refine ⟨k + 1, by omega, by go_num, ?_, hb3⟩
        rw [HU.out, or16 hr hw, or16 u1 (Nat.or_lt_two_pow (n := 4) hr hw)]
      case measure => simp [intOf]; omega
    · obtain rfl : k = l.length := by omega
      go_wp2
      go_ret
      exact ⟨reti (by rw [List.take_length]), hb⟩

def regsUsedI (l : List Cd) : Int := if pv l then (usedOf l : Int) else -1

def SRRel (w : World) (l : List Cd) (sv iv : Value) (wr : World) : Prop :=
  ∃ k : Nat, k ≤ l.length ∧ iv = .int .i64 k ∧ sv = .int .i64 (usedOf (l.take k)) ∧ Below w.heap.size w wr

set_option maxHeartbeats 2000000 in
theorem sRegsUsed_c (A : Option Addr) (c : Nat) (l : List Cd) (w : World) (hA : RdC w w.heap.size A l) (hl : l.length ≤ 1000000000) :
    Calls Tryz.prog 115 #[.slice A l.length c] w fun e w' => e = .returned (.int .i64 (regsUsedI l)) ∧ Below w.heap.size w w' := by
  cases hp : pv l with
  | false =>
    go_enter Tryz.func115, Tryz.ntmps115
    go_wp2_with fail
    refine (sProgramValid_c A c l w hA hl).mono ?_
    rintro e w1 ⟨rfl, hb⟩
    go_wp2
    go_ret
    exact ⟨reti (by simp [regsUsedI, hp]), hb⟩
  | true =>
    have HP := Lib.hid hp
    go_enter Tryz.func115, Tryz.ntmps115
    go_wp2_with fail
    refine (sProgramValid_c A c l w hA hl).mono ?_
    rintro e w1 ⟨rfl, hb1⟩
    go_wp2
    clear hp
    go_loopw [3, 4, 5] (fun sv iv _ wr => SRRel w l sv iv wr) (fun _ i _ _ => l.length - (intOf i).toNat)
    case atStart => exact ⟨0, Nat.zero_le _, rfl, rfl, hb1⟩
    case round =>
      obtain ⟨k, hk, rfl, rfl, hb⟩ := hrel
      by_cases hlt : k < l.length
      · obtain ⟨b, off, x, rfl, hbB, hx, c0, c1, c2, c3⟩ := (hA.below hb).at_ hlt
        have HU := Lib.hid (usedOf_take hx)
        have HX := Lib.hid hx
        have u1 := usedOf_lt (l.take k)
        have hr := reads_lt x
        have hwl := wset_lt x
        have hw3 := wset_wreg x
        generalize usedOf (l.take k) = u at *
        have hsz := hb.size
        have hbl : b < wr.heap.size := by omega
        have q0 : (0 : Int) ≤ (k : Int) := Int.natCast_nonneg _
        have q5 : (k : Int) < (l.length : Int) := by omega
        clear hx
        have HW := Lib.hid hw3
        clear hw3
        go_wp2_with fail
        refine (sCodeReads_c x _).mono ?_
        rintro e w2 ⟨rfl, hb2⟩
        replace c0 := cell_kept hb2 c0
        replace c1 := cell_kept hb2 c1
        replace c2 := cell_kept hb2 c2
        replace c3 := cell_kept hb2 c3
        have hb3 := below_trans hb (Nat.le_refl _) hb2
        go_wp2_with fail
        refine (sCodeWrites_c x _).mono ?_
        rintro e w3 ⟨rfl, hb4⟩
        have hb5 := below_trans hb3 (Nat.le_refl _) hb4
        clear c0 c1 c2 c3
        rcases HW.out with ⟨g0, g1, g2⟩ | ⟨g0, g1⟩
        · obtain ⟨r, hr0⟩ := Int.eq_ofNat_of_zero_le g0
          rw [hr0] at g1 g2 ⊢
          have HG := Lib.hid g1
          clear g0 g1 hr0
          have g3 : r ≤ 3 := by omega
          go_wp2
          go_roundw
          case rel =>
            refine ⟨k + 1, by omega, by go_num, ?_, hb5⟩
            have hg := HG.out
            rw [Int.toNat_natCast] at hg
            rw [HU.out, hg, or16 u1 hr, or_bit _ _ (by have := Nat.or_lt_two_pow (n := 4) u1 hr; omega) (by omega), Nat.or_assoc]
          case measure => simp [intOf]; omega
        · rw [g0]
          have HG := Lib.hid g1
          clear g0 g1
          go_wp2
          go_roundw
          case rel =>
            refine ⟨k + 1, by omega, by go_num, ?_, hb5⟩
            rw [HU.out, HG.out, or16 u1 hr, Nat.or_zero]
          case measure => simp [intOf]; omega
      · obtain rfl : k = l.length := by omega
        go_wp2
        go_ret
        exact ⟨reti (by simp [regsUsedI, HP.out]), hb⟩

end Go.Proofs.YtelbfeidpcojmaaGreat
