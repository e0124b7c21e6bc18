/- Part 15 of what the claim needs. -/
import Derived.Test.YtelbfeidpcojmaaGreatLau1
import Derived.Test.YtelbfeidpcojmaaGreatLau2
import Derived.Test.YtelbfeidpcojmaaGreatLau5
import Derived.Test.YtelbfeidpcojmaaGreatLau6
import Derived.Test.YtelbfeidpcojmaaGreatLau14
import Derived.Laws.Cover3
import Derived.Deep.MidRow
import Derived.IntWalk
namespace Go.Proofs.YtelbfeidpcojmaaGreat
open Go.RowKit
set_option linter.unusedVariables false
set_option linter.unusedSimpArgs false

theorem RdI.at1 {w : World} {B : Nat} {A : Option Addr} {xs : List Int} (h : RdI w B A xs) {k : Nat} (hk : k < xs.length) :
    ∃ b off, A = some ⟨b, off, none⟩ ∧ b < B ∧ ∀ j x, xs[j]? = some x → w.cell? ⟨b, off + j, none⟩ = some (.int .i64 x) := by
  obtain ⟨b, off, e, hb, hc⟩ := h.2 (by omega)
  exact ⟨b, off, e, hb, fun j x hx => hc j _ (by simp [hx])⟩

theorem nm_get {t : List Int} (ht : t.length = 4) {a : Nat} (ha : a ≤ 3) : t[a]? = some (nm t a) := by
  have : a < t.length := by omega
  simp [nm, List.getD_eq_getElem?_getD, List.getElem?_eq_getElem this]

set_option maxRecDepth 100000 in
set_option maxHeartbeats 4000000 in
theorem l22Map_c (x : Cd) (At : Option Addr) (ct : Nat) (t : List Int) (w : World) (hv : cvOk x = true) (ht : t.length = 4) (hT : RdI w w.heap.size At t) :
    Calls Tryz.prog 142 #[x.val, .slice At t.length ct] w fun e w' => e = .returned (ren (nm t) x).val ∧ Below w.heap.size w w' := by
  obtain ⟨bt, ot, rfl, hbt, hcell⟩ := hT.at1 (k := 0) (by omega)
  have ha := cvOk_a hv
  have hb := cvOk_b hv
  have hc := cvOk_c hv
  have hb2 := cvOk_b2 hv
  have ho := op14 hv
  obtain ⟨a, hae⟩ := Int.eq_ofNat_of_zero_le ha.1
  obtain ⟨b, hbe⟩ := Int.eq_ofNat_of_zero_le hb.1
  obtain ⟨c, hce⟩ := Int.eq_ofNat_of_zero_le hc.1
  obtain ⟨o, xa, xb, xc⟩ := x
  simp only at ha hb hc hb2 hae hbe hce ho
  subst hae hbe hce
  have hca := hcell a _ (nm_get ht (by omega))
  have hcc := hcell c _ (nm_get ht (by omega))
  have l3 : (3 : Int) < (t.length : Int) := by omega
  have l4 : a < t.length := by omega
  have l5 : c < t.length := by omega
  have HC := Lib.hid hcell
  have HT := Lib.hid ht
  clear hcell ht hv hT
  unfold Cd.val
  rcases ho with rfl | rfl | rfl | rfl | rfl | rfl | rfl | rfl | rfl | rfl | rfl | rfl | rfl | rfl
  all_goals
    try (have hb3 := (hb2 (by decide)).2; have l6 : b < t.length := by omega
         have hcb := HC.out b _ (nm_get HT.out (by omega)))
    clear hb2
    go_enter Tryz.func142, Tryz.ntmps142
    go_wp2
    exact bodyPost_ret (v := (ren (nm t) ⟨_, a, b, c⟩).val) (by simp [results, Tryz.results142, go_sem, Cd.val, ren, regsN]) rfl ⟨rfl, (by repeat (first | exact Below.refl _ _ | assumption | refine Below.alloc ?_ (by simp <;> omega) _ | refine Below.setCell ?_ (by simp <;> omega) _ | refine Below.drew ?_))⟩

def arr4 (t : List Int) : Value := .agg #[.int .i64 (nm t 0), .int .i64 (nm t 1), .int .i64 (nm t 2), .int .i64 (nm t 3)]

theorem map_take_snoc {α β : Type} (f : α → β) {l : List α} {k : Nat} {x : α} (h : l[k]? = some x) : (l.take (k + 1)).map f = (l.take k).map f ++ [f x] := by
  obtain ⟨hk, rfl⟩ := List.getElem?_eq_some_iff.1 h
  rw [List.take_succ_eq_append_getElem hk, List.map_append]
  rfl

/-- Four cells of a row of instructions are written. -/
theorem row_set {l m : List Cd} {zr : List Value} {k : Nat} {y : Cd} (hx : m[k]? = some y) (hlen : m.length = l.length) (hz : zr.length = l.length * 4) (hk : k < l.length) :
    (((((cdsCells m).take (k * 4) ++ zr.drop (k * 4)).set (k * 4) (.int .i64 y.op)).set (k * 4 + 1) (.int .i64 y.a)).set (k * 4 + 2) (.int .i64 y.b)).set (k * 4 + 3) (.int .i64 y.c) = (cdsCells m).take ((k + 1) * 4) ++ zr.drop ((k + 1) * 4) := by
  have hcl := cdsCells_length m
  have e0 : (cdsCells m)[k * 4]? = some (.int .i64 y.op) := cdsCells_get m k y hx 0 (by omega)
  have e1 : (cdsCells m)[k * 4 + 1]? = some (.int .i64 y.a) := cdsCells_get m k y hx 1 (by omega)
  have e2 : (cdsCells m)[k * 4 + 2]? = some (.int .i64 y.b) := cdsCells_get m k y hx 2 (by omega)
  have e3 : (cdsCells m)[k * 4 + 3]? = some (.int .i64 y.c) := cdsCells_get m k y hx 3 (by omega)
  rw [take_set_drop _ zr _ _ e0 (by omega), take_set_drop _ zr _ _ e1 (by omega), take_set_drop _ zr _ _ e2 (by omega), take_set_drop _ zr _ _ e3 (by omega), show (k + 1) * 4 = k * 4 + 3 + 1 from by omega]

set_option maxRecDepth 100000 in
set_option maxHeartbeats 8000000 in
theorem renamed_c (A : Option Addr) (c : Nat) (l : List Cd) (t : List Int) (w : World) (hA : RdC w w.heap.size A l) (hl : l.length ≤ 1000000000) (hv : ∀ x ∈ l, cvOk x = true) :
    Calls Tryz.prog 108 #[.slice A l.length c, arr4 t] w (RetC w (l.map (ren (nm t)))) := by
  have hmk := make_code l.length (by omega)
  unfold arr4
  go_enter Tryz.func108, Tryz.ntmps108
  go_wp2
  have hz := zeroRow_size (.agg #[.int .i64 0, .int .i64 0, .int .i64 0, .int .i64 0]) (l.length * 4)
  have ho := OR.lit (w.alloc (.cells #[.int .i64 (nm t 0), .int .i64 (nm t 1), .int .i64 (nm t 2), .int .i64 (nm t 3)] 132)) w.heap.size 76 4 l.length _ (by simp) (by omega) hz
  have hT : ∀ j : Nat, j ≤ 3 → ((w.alloc (.cells #[.int .i64 (nm t 0), .int .i64 (nm t 1), .int .i64 (nm t 2), .int .i64 (nm t 3)] 132)).alloc (.cells (zeroRow (.agg #[.int .i64 0, .int .i64 0, .int .i64 0, .int .i64 0]) (l.length * 4)) 76)).cell? ⟨w.heap.size, j, none⟩ = some (.int .i64 (nm t (j : Int))) := by
    intro j hj
    have : j = 0 ∨ j = 1 ∨ j = 2 ∨ j = 3 := by omega
    rcases this with rfl | rfl | rfl | rfl <;> simp [go_sem]
  generalize zeroRow (.agg #[.int .i64 0, .int .i64 0, .int .i64 0, .int .i64 0]) (l.length * 4) = zr at *
  have hzl : zr.toList.length = l.length * 4 := by simpa using hz
  have HZ := Lib.hid hzl
  clear hmk hz hzl
  go_loopw [14] (fun i wr => ∃ k : Nat, k ≤ l.length ∧ i = .int .i64 k ∧ OR wr w.heap.size 76 4 (some ⟨w.heap.size + 1, 0, none⟩) l.length l.length ((cdsCells (l.map (ren (nm t)))).take (k * 4) ++ zr.toList.drop (k * 4)) ∧
    Hid (∀ j : Nat, j ≤ 3 → wr.cell? ⟨w.heap.size, j, none⟩ = some (.int .i64 (nm t (j : Int)))) ∧ Below w.heap.size w wr ∧ w.heap.size + 2 ≤ wr.heap.size) (fun i _ => l.length - (intOf i).toNat)
  case atStart => exact ⟨0, Nat.zero_le _, rfl, by simpa using ho, hT, (by repeat (first | exact Below.refl _ _ | assumption | refine Below.alloc ?_ (by simp <;> omega) _ | refine Below.setCell ?_ (by simp <;> omega) _ | refine Below.drew ?_)), by simp⟩
  case round =>
    clear ho hT
    obtain ⟨k, hk, rfl, ho, HT, hb, hsz2⟩ := hrel
    by_cases hlt : k < l.length
    · obtain ⟨b, off, x, rfl, hbB, hx, c0, c1, c2, c3⟩ := (hA.below hb).at_ hlt
      have hvx := hv x (List.mem_of_getElem? hx)
      have hM : (l.map (ren (nm t)))[k]? = some (ren (nm t) x) := by rw [List.getElem?_map, hx]; rfl
      have HM := Lib.hid hM
      have hsz := hb.size
      have ha := cvOk_a hvx
      have hbb := cvOk_b hvx
      have hcc := cvOk_c hvx
      have hb2 := cvOk_b2 hvx
      have hop := op14 hvx
      obtain ⟨xa, hxa⟩ := Int.eq_ofNat_of_zero_le ha.1
      obtain ⟨xb, hxb⟩ := Int.eq_ofNat_of_zero_le hbb.1
      obtain ⟨xc, hxc⟩ := Int.eq_ofNat_of_zero_le hcc.1
      obtain ⟨o, xa', xb', xc'⟩ := x
      simp only at ha hbb hcc hb2 hxa hxb hxc hop c0 c1 c2 c3
      subst hxa hxb hxc
      have t0 := HT.out xa (by omega)
      have t2 := HT.out xc (by omega)
      have lt0 : xa < 4 := by omega
      have lt2 : xc < 4 := by omega
      have HX := Lib.hid hx
      clear hx hM hvx
      obtain ⟨u0, hu0⟩ := ho.some_cell (k * 4) (by omega)
      obtain ⟨u1, hu1⟩ := ho.some_cell (k * 4 + 1) (by omega)
      obtain ⟨u2, hu2⟩ := ho.some_cell (k * 4 + 2) (by omega)
      obtain ⟨u3, hu3⟩ := ho.some_cell (k * 4 + 3) (by omega)
      have hf0 := ho.at0.2.1 (k * 4)
      have hf1 := ho.at0.2.1 (k * 4 + 1)
      have hf2 := ho.at0.2.1 (k * 4 + 2)
      have hf3 := ho.at0.2.1 (k * 4 + 3)
      have hne1 : ¬ w.heap.size + 1 = wr.heap.size := by omega
      have hne2 : ¬ w.heap.size = wr.heap.size := by omega
      have hlt1 : w.heap.size + 1 < wr.heap.size := by omega
      have hlt2 : w.heap.size < wr.heap.size := by omega
      have hR : regsN o = 0 ∨ regsN o = 1 ∨ (regsN o = 2 ∧ xb ≤ 3) ∨ (regsN o = 3 ∧ xb ≤ 3) := by
        rcases hop with h | h | h | h | h | h | h | h | h | h | h | h | h | h <;> subst h
        · exact .inr (.inl rfl)
        · exact .inr (.inl rfl)
        · exact .inr (.inr (.inl ⟨rfl, by have := hb2 (by omega); omega⟩))
        · exact .inr (.inr (.inl ⟨rfl, by have := hb2 (by omega); omega⟩))
        · exact .inr (.inr (.inl ⟨rfl, by have := hb2 (by omega); omega⟩))
        · exact .inr (.inr (.inr ⟨rfl, by have := hb2 (by omega); omega⟩))
        · exact .inr (.inr (.inr ⟨rfl, by have := hb2 (by omega); omega⟩))
        · exact .inr (.inr (.inl ⟨rfl, by have := hb2 (by omega); omega⟩))
        · exact .inr (.inr (.inl ⟨rfl, by have := hb2 (by omega); omega⟩))
        · exact .inl rfl
        · exact .inr (.inl rfl)
        · exact .inl rfl
        · exact .inr (.inl rfl)
        · exact .inl rfl
      clear hb2 hop
      rcases hR with hR | hR | ⟨hR, lb⟩ | ⟨hR, lb⟩
      all_goals
        try have lt1 : xb < 4 := by omega
        try have t1 := HT.out xb lb
        have HRR := Lib.hid hR
        go_wp2_with (go_at_call 119; refine (registers_c _ _).mono ?_; rintro e w' ⟨rfl, rfl⟩)
        go_roundw
        case rel =>
          refine ⟨k + 1, by omega, by go_num, ?_, ?_, ?_, ?_⟩
          · have h1 := row_set HM.out (by simp) HZ.out hlt
            have h2 := (((((ho.at0.2.2 (k * 4) (.int .i64 (ren (nm t) ⟨o, xa, xb, xc⟩).op)).at0.2.2 (k * 4 + 1) (.int .i64 (ren (nm t) ⟨o, xa, xb, xc⟩).a))).at0.2.2 (k * 4 + 2) (.int .i64 (ren (nm t) ⟨o, xa, xb, xc⟩).b))).at0.2.2 (k * 4 + 3) (.int .i64 (ren (nm t) ⟨o, xa, xb, xc⟩).c)
            rw [h1] at h2
            simp only [ren, HRR.out] at h2
            exact OR.alloc h2 _
          · intro j hj
            have := HT.out j hj
            simp [go_sem, this, hlt2]
          · exact ((((hb.setCell (by simp) _).setCell (by simp) _).setCell (by simp) _).setCell (by simp) _).alloc (by simpa [size_set] using hsz) _
          · simp; omega
        case measure => simp [intOf]; omega
    · obtain rfl : k = l.length := by omega
      go_wp2
      go_ret
      refine RetC.of ?_ hb
      rw [List.take_of_length_le (by rw [cdsCells_length, List.length_map]; omega), List.drop_of_length_le (by rw [HZ.out]; omega), List.append_nil] at ho
      exact ho

theorem nameOk_len {t : List Int} (h : t.length ≠ 4) : nameOk t = false := by simp [nameOk, h]

def SNRel (w : World) (l : List Cd) (t : List Int) (ov iv : Value) (wr : World) : Prop :=
  ∃ (k : Nat) (A : Option Addr) (n c : Nat), k ≤ l.length ∧ iv = .int .i64 k ∧ ov = .slice A n c ∧ OC wr w.heap.size A n c ((l.take k).map (ren (nm t))) ∧ n = k ∧ Below w.heap.size w wr

set_option maxRecDepth 100000 in
set_option maxHeartbeats 4000000 in
theorem sRenameRegs_c (A At : Option Addr) (c ct : Nat) (l : List Cd) (t : List Int) (w : World) (hA : RdC w w.heap.size A l) (hl : l.length ≤ 1000000000) (hT : RdI w w.heap.size At t) (htl : t.length ≤ 1000000000) :
    Calls Tryz.prog 116 #[.slice A l.length c, .slice At t.length ct] w (RetC w (renameL l t)) := by
  by_cases h4 : t.length = 4
  · have H4 := Lib.hid h4
    have e4 : ((t.length : Int) != 4) = false := by simp [h4]
    have e15 : maskAllI 4 = 15 := by decide
    cases hok : maskOfI t 4 == 15 with
    | false =>
      have hn : (maskOfI t 4 != 15) = true := by simp [bne, hok]
      have HR := Lib.hid (show renameL l t = [] by simp [renameL, nameOk, hok])
      clear hok h4
      go_enter Tryz.func116, Tryz.ntmps116
      go_wp2_with fail
      have hb0 : Below w.heap.size w (w.alloc (.cells #[] 76)) := (by repeat (first | exact Below.refl _ _ | assumption | refine Below.alloc ?_ (by simp <;> omega) _ | refine Below.setCell ?_ (by simp <;> omega) _ | refine Below.drew ?_))
      refine (sMaskOf_c At ct t 4 _ ((hT.below hb0).more hb0.size) htl).mono ?_
      rintro e w1 ⟨rfl, rfl⟩
      go_wp2_with fail
      refine (sMaskAll_c 4 _).mono ?_
      rintro e w1 ⟨rfl, rfl⟩
      go_wp2
      go_ret
      rw [HR.out]
      exact RetC.of (OC.empty_ w _ (Nat.le_refl _)) hb0
    | true =>
      have hn : (maskOfI t 4 != 15) = false := by simp [bne, hok]
      have hnk : nameOk t = true := by simp [nameOk, h4, hok]
      have HN := Lib.hid hnk
      clear hok h4 hnk
      cases hp : pv l with
      | false =>
        have HR := Lib.hid (show renameL l t = [] by simp [renameL, hp])
        go_enter Tryz.func116, Tryz.ntmps116
        go_wp2_with fail
        have hb0 : Below w.heap.size w (w.alloc (.cells #[] 76)) := (by repeat (first | exact Below.refl _ _ | assumption | refine Below.alloc ?_ (by simp <;> omega) _ | refine Below.setCell ?_ (by simp <;> omega) _ | refine Below.drew ?_))
        refine (sMaskOf_c At ct t 4 _ ((hT.below hb0).more hb0.size) htl).mono ?_
        rintro e w1 ⟨rfl, rfl⟩
        go_wp2_with fail
        refine (sMaskAll_c 4 _).mono ?_
        rintro e w1 ⟨rfl, rfl⟩
        go_wp2
        go_loopw [5, 6] (fun ov iv wr => ∃ (A1 : Option Addr) (c1 : Nat), iv = .int .i64 0 ∧ ov = .slice A1 0 c1 ∧ OC wr w.heap.size A1 0 c1 [] ∧ Below w.heap.size w wr) (fun _ _ _ => 0)
        case atStart => exact ⟨_, _, rfl, rfl, OC.empty_ w _ (Nat.le_refl _), hb0⟩
        case round =>
          obtain ⟨A1, c1, rfl, rfl, ho, hb⟩ := hrel
          by_cases hlt : 0 < l.length
          · go_wp2_with fail
            refine (sProgramValid_c A c l wr ((hA.below hb).more hb.size) hl).mono ?_
            rintro e w1 ⟨rfl, hb1⟩
            go_wp2
            go_ret
            rw [HR.out]
            exact RetC.of (OR.below ho hb1 (Nat.le_refl _)) (below_trans hb (Nat.le_refl _) hb1)
          · have h0 : ¬ (0 : Int) < (l.length : Int) := by omega
            go_wp2
            go_ret
            rw [HR.out]
            exact RetC.of ho hb
      | true =>
        have HR := Lib.hid (show renameL l t = l.map (ren (nm t)) by simp [renameL, hp, HN.out])
        have HV := Lib.hid (pv_all hp)
        go_enter Tryz.func116, Tryz.ntmps116
        go_wp2_with fail
        have hb0 : Below w.heap.size w (w.alloc (.cells #[] 76)) := (by repeat (first | exact Below.refl _ _ | assumption | refine Below.alloc ?_ (by simp <;> omega) _ | refine Below.setCell ?_ (by simp <;> omega) _ | refine Below.drew ?_))
        refine (sMaskOf_c At ct t 4 _ ((hT.below hb0).more hb0.size) htl).mono ?_
        rintro e w1 ⟨rfl, rfl⟩
        go_wp2_with fail
        refine (sMaskAll_c 4 _).mono ?_
        rintro e w1 ⟨rfl, rfl⟩
        go_wp2
        go_loopw [5, 6] (fun ov iv wr => SNRel w l t ov iv wr) (fun _ i _ => l.length - (intOf i).toNat)
        case atStart => exact ⟨0, _, 0, 0, Nat.zero_le _, rfl, rfl, OC.empty_ w _ (Nat.le_refl _), rfl, hb0⟩
        case round =>
          obtain ⟨k, A1, n, c1, hk, rfl, rfl, ho, rfl, hb⟩ := hrel
          by_cases hlt : n < l.length
          · go_wp2_with fail
            refine (sProgramValid_c A c l wr ((hA.below hb).more hb.size) hl).mono ?_
            rintro e w0 ⟨rfl, hb0'⟩
            have ho0 := ho.below hb0' (Nat.le_refl _)
            have hb' := below_trans hb (Nat.le_refl _) hb0'
            obtain ⟨b, off, x, rfl, hbB, hx, c0, c1', c2, c3⟩ := (hA.below hb').at_ hlt
            have hvx := HV.out x (List.mem_of_getElem? hx)
            have HM := Lib.hid (map_take_snoc (ren (nm t)) hx)
            clear hx
            go_wp2_with fail
            refine (l22Map_c x At ct t w0 hvx H4.out ((hT.below hb').more hb'.size)).mono ?_
            rintro e w1 ⟨rfl, hb1⟩
            have ho1 := ho0.below hb1 (Nat.le_refl _)
            have hb2 := below_trans hb' (Nat.le_refl _) hb1
            generalize ren (nm t) x = y at *
            clear hvx c0 c1' c2 c3
            obtain ⟨yo, ya, yb, yc⟩ := y
            unfold Cd.val
            go_wp2_with (at_builtin; refine app_code rfl _ _ rfl w.heap.size _ _ _ _ (ho1.alloc _) rfl ⟨yo, ya, yb, yc⟩ w1.heap.size 1 rfl ?h0 ?h1 ?h2 ?h3 ?hn ?hbase ?_)
            case hn => omega
            case hbase => have := hb2.size; simp; omega
            intro A' c' w3 ho2 hg2
            go_wp2
            go_roundw
            case rel => exact ⟨n + 1, A', n + 1, c', by omega, by go_num, rfl, by rw [HM.out, List.map_take]; exact ho2, rfl, below_app hb2 hb2.size ho1 (Nat.le_refl _) hg2⟩
            case measure => simp [intOf]; omega
          · obtain rfl : n = l.length := by omega
            go_wp2
            go_ret
            rw [HR.out]
            rw [List.take_length] at ho
            exact RetC.of ho hb
  · have HR := Lib.hid (show renameL l t = [] by simp [renameL, nameOk_len h4])
    have e4 : ((t.length : Int) != 4) = true := by rw [bne_iff_ne]; omega
    go_enter Tryz.func116, Tryz.ntmps116
    go_wp2
    go_ret
    rw [HR.out]
    exact RetC.of (OC.empty_ w _ (Nat.le_refl _)) (by repeat (first | exact Below.refl _ _ | assumption | refine Below.alloc ?_ (by simp <;> omega) _ | refine Below.setCell ?_ (by simp <;> omega) _ | refine Below.drew ?_))

def row4 (t : List Int) : Array Value := #[.int .i64 (nm t 0), .int .i64 (nm t 1), .int .i64 (nm t 2), .int .i64 (nm t 3)]
theorem row4_set {t : List Int} (ht : t.length = 4) {r : Nat} (hr : r < 4) (v : Int) : (row4 t).setIfInBounds r (.int .i64 v) = row4 (t.set r v) := by
  match t, ht with
  | [a, b, c, d], _ =>
    have : r = 0 ∨ r = 1 ∨ r = 2 ∨ r = 3 := by omega
    rcases this with rfl | rfl | rfl | rfl <;> rfl
theorem row4_get (t : List Int) {r : Nat} (hr : r < 4) : (row4 t)[r]? = some (.int .i64 (nm t (r : Int))) := by
  have : r = 0 ∨ r = 1 ∨ r = 2 ∨ r = 3 := by omega
  rcases this with rfl | rfl | rfl | rfl <;> rfl
theorem packSt_len (u : Nat) : ∀ i, (packSt u i).2.length = 4 ∧ (packSt u i).1 ≤ i
  | 0 => ⟨rfl, Nat.le_refl _⟩
  | i + 1 => by
    have h := packSt_len u i
    unfold packSt
    dsimp only
    split
    · exact ⟨by simp [h.1], by simp; omega⟩
    · exact ⟨h.1, by omega⟩
theorem packSi_len (u : Nat) : ∀ i, (packSi u i).2.length = 4 ∧ (packSi u i).1 ≤ i
  | 0 => ⟨rfl, Nat.le_refl _⟩
  | i + 1 => by
    have h := packSi_len u i
    unfold packSi
    dsimp only
    split
    · exact ⟨by simp [h.1], by simp; omega⟩
    · exact ⟨h.1, by omega⟩

def PIRel (w : World) (u B : Nat) (iv nv : Value) (wr : World) : Prop :=
  ∃ r : Nat, r ≤ 4 ∧ iv = .int .i64 r ∧ nv = .int .i64 ((packSi u r).1 : Nat) ∧ Hid (wr.heap[B]? = some (.cells (row4 (packSi u r).2) 132 (0, 0))) ∧ Below w.heap.size w wr

set_option maxRecDepth 100000 in
set_option maxHeartbeats 4000000 in
theorem ipackRegs_c (A : Option Addr) (c : Nat) (l : List Cd) (w : World) (hA : RdC w w.heap.size A l) (hl : l.length ≤ 1000000000) (hp : pv l = true) :
    Calls Tryz.prog 72 #[.slice A l.length c] w (RetC w (packL l)) := by
  have HR := Lib.hid (show packL l = l.map (ren (nm (packSi (usedOf l) 4).2)) by simp [packL, hp])
  have HV := Lib.hid (pv_all hp)
  have hu := usedOf_lt l
  clear hp
  go_enter Tryz.func72, Tryz.ntmps72
  go_wp2_with fail
  have hb0 : Below w.heap.size w (w.alloc (.cells #[.int .i64 0, .int .i64 0, .int .i64 0, .int .i64 0] 132)) := (by repeat (first | exact Below.refl _ _ | assumption | refine Below.alloc ?_ (by simp <;> omega) _ | refine Below.setCell ?_ (by simp <;> omega) _ | refine Below.drew ?_))
  have hz : w.heap.size < (w.alloc (.cells #[.int .i64 0, .int .i64 0, .int .i64 0, .int .i64 0] 132)).heap.size := by simp
  refine (iregsUsed_c A c l _ ((hA.below hb0).more hb0.size) hl).mono ?_
  rintro e w1 ⟨rfl, hb1⟩
  have hb := below_trans hb0 (Nat.le_refl _) hb1
  have hh : w1.heap[w.heap.size]? = some (.cells #[.int .i64 0, .int .i64 0, .int .i64 0, .int .i64 0] 132 (0, 0)) := by
    rw [hb1.block _ hz]
    exact heap_alloc_new w _
  generalize usedOf l = u at *
  have HH := Lib.hid hh
  clear hh
  go_wp2
  go_loopw [9, 4] (fun iv nv wr => PIRel w u w.heap.size iv nv wr) (fun i _ _ => 4 - (intOf i).toNat)
  case atStart => exact ⟨0, by omega, rfl, rfl, HH, hb⟩
  case round =>
    obtain ⟨r, hr, rfl, rfl, H4, hb⟩ := hrel
    have hlen := packSi_len u r
    by_cases hlt : r < 4
    · have hcell : wr.cell? ⟨w.heap.size, r, none⟩ = some (.int .i64 (nm (packSi u r).2 (r : Int))) := by rw [cell_of_heap H4.out, row4_get _ hlt]
      have hfree := free_of_heap H4.out r
      have HS := Lib.hid (show packSi u (r + 1) = if (u >>> r) % 2 = 1 then ((packSi u r).1 + 1, (packSi u r).2.set r ((packSi u r).1 : Int)) else packSi u r from rfl)
      have HL := Lib.hid hlen.1
      have hn := hlen.2
      generalize packSi u r = s at *
      obtain ⟨n, t⟩ := s
      simp only at *
      clear hlen
      have hba := bit_and u r (by omega)
      by_cases hbit : (u >>> r) % 2 = 1
      · have hb1 : (bits .and .i64 ((u : Int) / 2 ^ r) 1 == 1) = true := by rw [hba, hbit]; rfl
        have HB := Lib.hid hbit
        clear hba hbit
        go_wp2
        go_roundw
        case rel =>
          have hs := HS.out
          rw [if_pos HB.out] at hs
          refine ⟨r + 1, by omega, by go_num, by rw [hs]; go_num, ?_, hb.setCell (Nat.le_refl _) _⟩
          show _ = _
          rw [heap_set_same H4.out, row4_set HL.out hlt, hs]
        case measure => simp [intOf]; omega
      · have hb1 : (bits .and .i64 ((u : Int) / 2 ^ r) 1 == 1) = false := by
          rw [hba, beq_eq_false_iff_ne]; omega
        have HB := Lib.hid hbit
        clear hba hbit
        go_wp2
        go_roundw
        case rel =>
          have hs := HS.out
          rw [if_neg HB.out] at hs
          exact ⟨r + 1, by omega, by go_num, by rw [hs], by show _ = _; rw [hs]; exact H4.out, hb⟩
        case measure => simp [intOf]; omega
    · obtain rfl : r = 4 := by omega
      have c0 := cell_of_heap H4.out 0
      have c1 := cell_of_heap H4.out 1
      have c2 := cell_of_heap H4.out 2
      have c3 := cell_of_heap H4.out 3
      rw [row4_get _ (by omega)] at c0 c1 c2 c3
      go_wp2_with fail
      refine (renamed_c A c l (packSi u 4).2 wr ((hA.below hb).more hb.size) hl HV.out).mono ?_
      clear c0 c1 c2 c3
      intro e w2 h
      obtain ⟨A2, c2, rfl, ho, hb2⟩ := h.mono hb
      go_wp2
      go_ret
      rw [HR.out]
      exact ⟨A2, c2, by simp only [List.length_map]; rfl, ho, hb2⟩

theorem rd_row4 {w : World} {B : Nat} {t : List Int} (ht : t.length = 4) (h : w.heap[B]? = some (.cells (row4 t) 3 (0, 0))) : RdI w w.heap.size (some ⟨B, 0, none⟩) t := by
  refine ⟨by simp, fun _ => ⟨B, 0, rfl, lt_of_block h, fun j u hu => ?_⟩⟩
  rw [Nat.zero_add, cell_of_heap h]
  have hj : j < 4 := by
    have := (List.getElem?_eq_some_iff.1 hu).1
    simpa [ht] using this
  rw [row4_get _ hj, ← hu, List.getElem?_map, nm_get ht (by omega)]
  rfl
theorem ren_row4 {w : World} {B : Nat} (A : Option Addr) (c : Nat) (l : List Cd) (t : List Int) (ht : t.length = 4) (h : w.heap[B]? = some (.cells (row4 t) 3 (0, 0))) (hA : RdC w w.heap.size A l) (hl : l.length ≤ 1000000000) :
    Calls Tryz.prog 116 #[.slice A l.length c, .slice (some ⟨B, 0, none⟩) 4 4] w (RetC w (renameL l t)) := by
  have := sRenameRegs_c A (some ⟨B, 0, none⟩) c 4 l t w hA hl (rd_row4 ht h) (by omega)
  rw [ht] at this
  exact this

theorem pass_bit (u r p : Nat) : (p < 2 → (u >>> r) % 2 = 1 - p → (((u : Int) / 2 ^ r).tmod 2 == 1 - (p : Int)) = true) ∧ (p < 2 → ¬ (u >>> r) % 2 = 1 - p → (((u : Int) / 2 ^ r).tmod 2 == 1 - (p : Int)) = false) := by
  rw [shr_cast]
  generalize u >>> r = m
  rw [Int.tmod_eq_emod_of_nonneg (by omega)]
  refine ⟨fun hp h => ?_, fun hp h => ?_⟩
  · rw [beq_iff_eq]; omega
  · rw [beq_eq_false_iff_ne]; omega

def SKRel0 (w : World) (B : Nat) (i : Nat) (nv : Value) (wr : World) : Prop :=
  ∃ (n : Nat) (t : List Int), nv = .int .i64 n ∧ n ≤ i ∧ Hid (t.length = 4) ∧ Hid (wr.heap[B]? = some (.cells (row4 t) 3 (0, 0))) ∧ Below w.heap.size w wr ∧ w.heap.size ≤ B

def SKRel (w : World) (u B : Nat) (i : Nat) (nv : Value) (wr : World) : Prop :=
  nv = .int .i64 ((packSt u i).1 : Nat) ∧ Hid (wr.heap[B]? = some (.cells (row4 (packSt u i).2) 3 (0, 0))) ∧ Below w.heap.size w wr ∧ w.heap.size ≤ B

set_option maxRecDepth 100000 in
set_option maxHeartbeats 4000000 in
theorem sPackRegs_c (A : Option Addr) (c : Nat) (l : List Cd) (w : World) (hA : RdC w w.heap.size A l) (hl : l.length ≤ 1000000000) :
    Calls Tryz.prog 77 #[.slice A l.length c] w (RetC w (packL l)) := by
  have hmk := make_int 4 (by omega)
  have hz4 : zeroRow (.int .i64 0) 4 = #[.int .i64 0, .int .i64 0, .int .i64 0, .int .i64 0] := by
    apply Array.ext'
    exact (toList_madeCells_one _ _).trans rfl
  rw [hz4] at hmk
  have hmk' : ∀ w : World, (Instr.makeSlice 24 (.int .i64 4) (.int .i64 4)).run Tryz.prog w = .ok (.slice (some ⟨w.heap.size, 0, none⟩) 4 4) (w.alloc (.cells #[.int .i64 0, .int .i64 0, .int .i64 0, .int .i64 0] 3)) := hmk
  clear hmk hz4
  cases hp : pv l with
  | true =>
    have HR := Lib.hid (pack_same hp)
    have hu := usedOf_lt l
    have hru : regsUsedI l = (usedOf l : Int) := by simp [regsUsedI, hp]
    clear hp
    go_enter Tryz.func77, Tryz.ntmps77
    go_wp2_with fail
    refine (sRegsUsed_c A c l w hA hl).mono ?_
    rintro e w1 ⟨rfl, hb⟩
    rw [hru]
    clear hru
    generalize usedOf l = u at *
    have hb1 := hb.alloc hb.size (.cells #[.int .i64 0, .int .i64 0, .int .i64 0, .int .i64 0] 3)
    have hsz := hb.size
    go_wp2
    clear hmk'
    have HH : Hid ((w1.alloc (.cells #[.int .i64 0, .int .i64 0, .int .i64 0, .int .i64 0] 3)).heap[w1.heap.size]? = some (.cells (row4 (packSt u 0).2) 3 (0, 0))) := heap_alloc_new w1 _
    go_loopw [6, 5] (fun pv nv wr => ∃ p : Nat, p ≤ 2 ∧ pv = .int .i64 (1 - (p : Int)) ∧ SKRel w u w1.heap.size (4 * p) nv wr) (fun pv _ _ => (intOf pv + 1).toNat)
    case atStart => exact ⟨0, by omega, rfl, rfl, HH, hb1, hsz⟩
    case round =>
      clear HH hb1
      obtain ⟨p, hp2, rfl, rfl, H4, hbr, hB⟩ := hrel
      by_cases hlt : p < 2
      · have hge : (0 : Int) ≤ 1 - (p : Int) := by omega
        obtain ⟨wo, rfl⟩ : ∃ wo : World, wo = wr := ⟨_, rfl⟩
        go_wp2
        go_loopw [7, 5] (fun rv nv wr => ∃ r : Nat, r ≤ 4 ∧ rv = .int .i64 r ∧ SKRel w u w1.heap.size (4 * p + r) nv wr) (fun rv _ _ => 4 - (intOf rv).toNat)
        case atStart => exact ⟨0, by omega, rfl, rfl, H4, hbr, hB⟩
        case round =>
          clear H4 hbr
          obtain ⟨r, hr, rfl, rfl, H5, hb5, _⟩ := hrel
          by_cases hlt4 : r < 4
          · have hlen := packSt_len u (4 * p + r)
            have hcell : wr.cell? ⟨w1.heap.size, r, none⟩ = some (.int .i64 (nm (packSt u (4 * p + r)).2 (r : Int))) := by rw [cell_of_heap H5.out, row4_get _ hlt4]
            have hfree := free_of_heap H5.out r
            have HS := Lib.hid (show packSt u (4 * p + r + 1) = if (u >>> r) % 2 = 1 - p then ((packSt u (4 * p + r)).1 + 1, (packSt u (4 * p + r)).2.set r ((packSt u (4 * p + r)).1 : Int)) else packSt u (4 * p + r) by
              have e1 : (4 * p + r) % 4 = r := by omega
              have e2 : (4 * p + r) / 4 = p := by omega
              simp only [packSt, e1, e2])
            have HL := Lib.hid hlen.1
            have hn := hlen.2
            generalize packSt u (4 * p + r) = s at *
            obtain ⟨n, t⟩ := s
            simp only at *
            clear hlen
            have hsc := shr_cast u r
            have htb := pass_bit u r p
            by_cases hbit : (u >>> r) % 2 = 1 - p
            · have hb1 : (((u : Int) / 2 ^ r).tmod 2 == 1 - (p : Int)) = true := htb.1 hlt hbit
              have HB := Lib.hid hbit
              clear hsc hbit htb
              go_wp2
              go_roundw
              case rel =>
                have hs := HS.out
                rw [if_pos HB.out] at hs
                refine ⟨r + 1, by omega, by go_num, by rw [← Nat.add_assoc, hs]; go_num, ?_, hb5.setCell hB _, hB⟩
                show _ = _
                rw [heap_set_same H5.out, row4_set HL.out hlt4, ← Nat.add_assoc, hs]
              case measure => simp [intOf]; omega
            · have hb1 : (((u : Int) / 2 ^ r).tmod 2 == 1 - (p : Int)) = false := htb.2 hlt hbit
              have HB := Lib.hid hbit
              clear hsc hbit htb
              go_wp2
              go_roundw
              case rel =>
                have hs := HS.out
                rw [if_neg HB.out] at hs
                exact ⟨r + 1, by omega, by go_num, by rw [← Nat.add_assoc, hs], by show _ = _; rw [← Nat.add_assoc, hs]; exact H5.out, hb5, hB⟩
              case measure => simp [intOf]; omega
          · obtain rfl : r = 4 := by omega
            go_wp2
            go_roundw
            case rel => exact ⟨p + 1, by omega, by (congr 1; omega), rfl, H5, hb5, hB⟩
            case measure => simp [intOf]; omega
      · obtain rfl : p = 2 := by omega
        have hlen := packSt_len u (4 * 2)
        go_wp2_with fail
        refine (ren_row4 A c l (packSt u (4 * 2)).2 hlen.1 H4.out ((hA.below hbr).more hbr.size) hl).mono ?_
        intro e w2 h
        obtain ⟨A2, c2, rfl, ho, hb2⟩ := h.mono hbr
        go_wp2
        go_ret
        rw [← HR.out]
        exact ⟨A2, c2, rfl, ho, hb2⟩
  | false =>
    have HR := Lib.hid (show packL l = [] by simp [packL, hp])
    have HQ := Lib.hid (show ∀ t, renameL l t = [] by intro t; simp [renameL, hp])
    have hru : regsUsedI l = -1 := by simp [regsUsedI, hp]
    clear hp
    go_enter Tryz.func77, Tryz.ntmps77
    go_wp2_with fail
    refine (sRegsUsed_c A c l w hA hl).mono ?_
    rintro e w1 ⟨rfl, hb⟩
    rw [hru]
    clear hru
    have hb1 := hb.alloc hb.size (.cells #[.int .i64 0, .int .i64 0, .int .i64 0, .int .i64 0] 3)
    have hsz := hb.size
    go_wp2
    clear hmk'
    have HH : Hid ((w1.alloc (.cells #[.int .i64 0, .int .i64 0, .int .i64 0, .int .i64 0] 3)).heap[w1.heap.size]? = some (.cells (row4 [0, 0, 0, 0]) 3 (0, 0))) := heap_alloc_new w1 _
    go_loopw [6, 5] (fun pv nv wr => ∃ p : Nat, p ≤ 2 ∧ pv = .int .i64 (1 - (p : Int)) ∧ SKRel0 w w1.heap.size (4 * p) nv wr) (fun pv _ _ => (intOf pv + 1).toNat)
    case atStart => exact ⟨0, by omega, rfl, 0, [0, 0, 0, 0], rfl, Nat.le_refl _, rfl, HH, hb1, hsz⟩
    case round =>
      clear HH hb1
      obtain ⟨p, hp2, rfl, n, t, rfl, hn, HL, H4, hbr, hB⟩ := hrel
      by_cases hlt : p < 2
      · have hge : (0 : Int) ≤ 1 - (p : Int) := by omega
        obtain ⟨wo, rfl⟩ : ∃ wo : World, wo = wr := ⟨_, rfl⟩
        go_wp2
        go_loopw [7, 5] (fun rv nv wr => ∃ r : Nat, r ≤ 4 ∧ rv = .int .i64 r ∧ SKRel0 w w1.heap.size (4 * p + r) nv wr) (fun rv _ _ => 4 - (intOf rv).toNat)
        case atStart => exact ⟨0, by omega, rfl, n, t, rfl, hn, HL, H4, hbr, hB⟩
        case round =>
          clear H4 hbr HL hn
          obtain ⟨r, hr, rfl, n, t, rfl, hn, HL, H5, hb5, _⟩ := hrel
          by_cases hlt4 : r < 4
          · have hcell : wr.cell? ⟨w1.heap.size, r, none⟩ = some (.int .i64 (nm t (r : Int))) := by rw [cell_of_heap H5.out, row4_get _ hlt4]
            have hfree := free_of_heap H5.out r
            go_wp2
            all_goals go_roundw
            case rel =>
              refine ⟨r + 1, by omega, by go_num, n + 1, t.set r n, by go_num, by omega, by show _ = _; rw [List.length_set]; exact HL.out, ?_, hb5.setCell hB _, hB⟩
              show _ = _
              rw [heap_set_same H5.out, row4_set HL.out hlt4]
            case measure => simp [intOf]; omega
            case rel => exact ⟨r + 1, by omega, by go_num, n, t, rfl, by omega, HL, H5, hb5, hB⟩
            case measure => simp [intOf]; omega
          · obtain rfl : r = 4 := by omega
            go_wp2
            go_roundw
            case rel => exact ⟨p + 1, by omega, by (congr 1; omega), n, t, rfl, hn, HL, H5, hb5, hB⟩
            case measure => simp [intOf]; omega
      · obtain rfl : p = 2 := by omega
        go_wp2_with fail
        refine (ren_row4 A c l t HL.out H4.out ((hA.below hbr).more hbr.size) hl).mono ?_
        intro e w2 h
        obtain ⟨A2, c2, rfl, ho, hb2⟩ := h.mono hbr
        go_wp2
        go_ret
        have ho' := ho
        have hq := HQ.out t
        rw [HR.out]
        rw [hq] at ho
        exact ⟨A2, c2, by rw [hq]; rfl, ho, hb2⟩


/-! ### Every place of a valid program has its stack of blocks -/
theorem pv_pre {l : List Cd} (h : pv l = true) (k : Nat) : ∃ s, pvRun [] (l.take k) = some s := by
  have hp := (pv_iff.1 h).2
  rw [← List.take_append_drop k l, pvRun_append] at hp
  cases hs : pvRun [] (l.take k) with
  | none => rw [hs] at hp; cases hp
  | some s => exact ⟨s, rfl⟩
theorem pv_step {l : List Cd} (h : pv l = true) {k : Nat} {x : Cd} (hx : l[k]? = some x) {s : List Int} (hs : pvRun [] (l.take k) = some s) : ∃ t, pvStep s x = some t := by
  obtain ⟨t, ht⟩ := pv_pre h (k + 1)
  obtain ⟨hk, rfl⟩ := List.getElem?_eq_some_iff.1 hx
  rw [List.take_succ_eq_append_getElem hk, pvRun_append, hs] at ht
  simp only [pvRun] at ht
  cases hq : pvStep s l[k] with
  | none => rw [hq] at ht; cases ht
  | some t => exact ⟨t, rfl⟩
theorem pinv_at {l : List Cd} (h : pv l = true) : ∀ k, k ≤ l.length → ∃ st oth en, PInv l k st oth en
  | 0, _ => ⟨_, _, _, PInv.start l⟩
  | k + 1, hk => by
    obtain ⟨st, oth, en, hP⟩ := pinv_at h k (by omega)
    have hx : l[k]? = some (cdAt l k) := by unfold cdAt; rw [List.getElem?_eq_getElem (by omega)]
    have hv : cvOk (cdAt l k) = true := pv_all h _ (List.mem_of_getElem? hx)
    obtain ⟨t, ht⟩ := pv_step h hx hP.pvs
    generalize cdAt l k = x at hx hv ht
    rcases pvStep_len ht with ⟨ho, he⟩ | ⟨ho, h12, hl, h0⟩ | ⟨ho, h14, hl⟩ | ⟨ho, h12, h14, he⟩
    · have h3 : st.length < 3 := by
        have ho' : x.op = 11 ∨ x.op = 13 := by simpa [opB] using ho
        rcases ho' with ho' | ho' <;> simp [pvStep, hv, ho'] at ht <;> exact ht.1
      exact ⟨_, _, _, hP.open_ hx hv ho h3⟩
    · cases st with
      | nil => simp at h0
      | cons p st =>
        have hm : mark l oth p = 11 := by
          simp [pvStep, hv, h12] at ht
          exact ht.1
        have h1 : (cdAt l p).op = 11 := by
          have := (hP.st_lt p (by simp)).2
          have ho' : (cdAt l p).op = 11 ∨ (cdAt l p).op = 13 := by simpa [opB] using this
          rcases ho' with h | h
          · exact h
          · simp [mark, h] at hm
        have h2 : oth p < 0 := by
          simp only [mark, h1] at hm
          split at hm
          · simp at *
          · split at hm
            · simp at hm
            · omega
        exact ⟨_, _, _, hP.els_ hx hv h12 h1 h2⟩
    · cases st with
      | nil => simp at hl
      | cons p st => exact ⟨_, _, _, hP.end_ hx hv h14⟩
    · exact ⟨_, _, _, hP.same_ hx hv ho h12 h14⟩

theorem cdAt_op (l : List Cd) (k : Nat) : (cdAt l k).op = opAt l k := by
  unfold cdAt opAt
  cases l[k]? <;> rfl
/-- An else or an end has its opening. -/
theorem around_in {l : List Cd} (h : pv l = true) {k : Nat} {x : Cd} (hx : l[k]? = some x) (ho : x.op = 12 ∨ x.op = 14) :
    aroundOf l k = (aroundN l k : Int) ∧ aroundN l k < k ∧ opB (cdAt l (aroundN l k)) = true := by
  have hk : k < l.length := (List.getElem?_eq_some_iff.1 hx).1
  obtain ⟨st, oth, en, hP⟩ := pinv_at h k (by omega)
  obtain ⟨t, ht⟩ := pv_step h hx hP.pvs
  have hv : cvOk x = true := pv_all h _ (List.mem_of_getElem? hx)
  cases st with
  | nil => rcases ho with ho | ho <;> simp [pvStep, hv, ho] at ht
  | cons p st =>
    have ha := hP.aro 0
    simp at ha
    have e : aroundN l k = p := by simp [aroundN, aroundOf, ha]
    have := hP.st_lt p (by simp)
    rw [e]
    exact ⟨ha, this.1, this.2⟩

theorem scanE_else_bound : ∀ (r : List Cd) (k d : Nat) (o : Int), (scanE r k d o).2 = o ∨ ∃ j : Nat, (scanE r k d o).2 = (j : Int) ∧ k ≤ j ∧ j < k + r.length
  | [], k, d, o => .inl rfl
  | x :: r, k, d, o => by
    have up : ∀ {k : Nat} {v : Int}, (∃ j : Nat, v = (j : Int) ∧ k + 1 ≤ j ∧ j < k + 1 + r.length) → ∃ j : Nat, v = (j : Int) ∧ k ≤ j ∧ j < k + (x :: r).length := by
      rintro k v ⟨j, h1, h2, h3⟩
      exact ⟨j, h1, by omega, by simp; omega⟩
    unfold scanE
    split
    · exact (scanE_else_bound r (k + 1) (d + 1) o).imp id up
    split
    · rcases scanE_else_bound r (k + 1) d k with h | h
      · exact .inr ⟨k, h, Nat.le_refl _, by simp⟩
      · exact .inr (up h)
    split
    · exact .inl rfl
    split
    · exact (scanE_else_bound r (k + 1) (d - 1) o).imp id up
    · exact (scanE_else_bound r (k + 1) d o).imp id up
theorem elseAt_lt {l : List Cd} {k : Nat} (hk : k < l.length) : elseAt l k = -1 ∨ ∃ j : Nat, elseAt l k = (j : Int) ∧ k < j ∧ j < l.length := by
  rcases scanE_else_bound (l.drop (k + 1)) (k + 1) 0 (-1) with h | ⟨j, h1, h2, h3⟩
  · exact .inl h
  · refine .inr ⟨j, h1, by omega, ?_⟩
    simp at h3
    omega
theorem overN_le {l : List Cd} (h : pv l = true) {k : Nat} {x : Cd} (hx : l[k]? = some x) (ho : opB x = true) : overN l k ≤ l.length := by
  have hk : k < l.length := (List.getElem?_eq_some_iff.1 hx).1
  obtain ⟨_, _, h3⟩ := pEnd_bound h hx ho
  unfold overN
  split
  · rename_i h0
    rcases elseAt_lt hk with h | ⟨j, h1, _, h2⟩
    · omega
    · rw [h1]; omega
  · show pEnd l k + 1 ≤ _
    omega
theorem succs_le {l : List Cd} (h : pv l = true) {k : Nat} (hk : k < l.length) : ∀ t ∈ succs l k, t ≤ l.length := by
  have hx : l[k]? = some (cdAt l k) := by unfold cdAt; rw [List.getElem?_eq_getElem hk]
  intro t ht
  unfold succs at ht
  split at ht
  · rename_i ho
    have := overN_le h hx (by rw [← cdAt_op] at ho; exact ho)
    split at ht
    · simp at ht; omega
    · simp at ht; omega
  split at ht
  · rename_i ho
    have ha := around_in h hx (.inl (by rw [cdAt_op]; exact beq_iff_eq.1 ho))
    have hy : l[aroundN l k]? = some (cdAt l (aroundN l k)) := by unfold cdAt; rw [List.getElem?_eq_getElem (by omega)]
    have hb := (pEnd_bound h hy ha.2.2).2.2
    simp at ht
    have : endN l (aroundN l k) = pEnd l (aroundN l k) := rfl
    omega
  split at ht
  · rename_i ho
    have ha := around_in h hx (.inr (by rw [cdAt_op]; exact beq_iff_eq.1 ho))
    split at ht
    · simp at ht; omega
    · simp at ht; omega
  · simp at ht; omega
theorem succs_two (l : List Cd) (k : Nat) : (succs l k).length ≤ 2 := by
  unfold succs
  split
  · split <;> simp
  split
  · simp
  split
  · split <;> simp
  · simp

/-! ### The least solution -/
theorem fold_or_sub {s t : Nat → Nat} (h : ∀ k, sub (s k) (t k)) : ∀ (L : List Nat) (a b : Nat), sub a b → sub (L.foldl (fun m t => m ||| s t) a) (L.foldl (fun m k => m ||| t k) b)
  | [], _, _, hab => hab
  | x :: L, a, b, hab => fold_or_sub h L _ _ (sub_or hab (h x))
theorem outSet_mono {s t : Nat → Nat} (h : ∀ k, sub (s k) (t k)) (l : List Cd) (k : Nat) : sub (outSet l s k) (outSet l t k) := fold_or_sub h _ _ _ (sub.refl 0)
theorem liveAt_mono {s t : Nat → Nat} (h : ∀ k, sub (s k) (t k)) (l : List Cd) (k : Nat) : sub (liveAt l s k) (liveAt l t k) :=
  sub_or (sub_or (sub_mdiff (outSet_mono h l k) _) (sub.refl _)) (sub.refl _)
theorem fold_or_lt {s : Nat → Nat} (h : ∀ k, s k < 16) : ∀ (L : List Nat) (a : Nat), a < 16 → L.foldl (fun m t => m ||| s t) a < 16
  | [], _, ha => ha
  | x :: L, a, ha => fold_or_lt h L _ (Nat.or_lt_two_pow (n := 4) ha (h x))
theorem outSet_lt {s : Nat → Nat} (h : ∀ k, s k < 16) (l : List Cd) (k : Nat) : outSet l s k < 16 := fold_or_lt h _ _ (by decide)
theorem loopSet_lt {l : List Cd} (h : pv l = true) (k : Nat) (hk : k < l.length) : loopSet l k < 16 := by
  unfold loopSet
  split
  · rename_i ho
    simp only [Bool.and_eq_true] at ho
    have hx : l[k]? = some (cdAt l k) := by unfold cdAt; rw [List.getElem?_eq_getElem hk]
    have ha := around_in h hx (.inr (by rw [cdAt_op]; exact beq_iff_eq.1 ho.1))
    have hy : l[aroundN l k]? = some (cdAt l (aroundN l k)) := by unfold cdAt; rw [List.getElem?_eq_getElem (by omega)]
    have hv := pv_all h _ (List.mem_of_getElem? hy)
    have := cvOk_a hv
    exact Nat.pow_lt_pow_right (a := 2) (n := 4) (by decide) (by omega)
  · decide
theorem liveAt_lt {l : List Cd} (h : pv l = true) {s : Nat → Nat} (hs : ∀ k, s k < 16) (k : Nat) (hk : k < l.length) : liveAt l s k < 16 :=
  Nat.or_lt_two_pow (n := 4) (Nat.or_lt_two_pow (n := 4) (mdiff_lt (outSet_lt hs l k)) (reads_lt _)) (loopSet_lt h k hk)

structure LInv (l : List Cd) (s : Nat → Nat) : Prop where
  pre : ∀ k, k < l.length → sub (s k) (liveAt l s k)
  out : ∀ k, l.length ≤ k → s k = 0
  low : ∀ t : Nat → Nat, (∀ k, k < l.length → sub (liveAt l t k) (t k)) → ∀ k, sub (s k) (t k)
  b16 : ∀ k, s k < 16
theorem LInv.start (l : List Cd) : LInv l (fun _ => 0) :=
  ⟨fun k _ => sub_zero _, fun _ _ => rfl, fun _ _ _ => sub_zero _, fun _ => by decide⟩
theorem upd_up {s : Nat → Nat} {k v : Nat} (h : sub (s k) v) : ∀ j, sub (s j) (upd s k v j) := by
  intro j
  unfold upd
  split
  · rename_i e; subst e; exact h
  · exact sub.refl _
theorem LInv.step {l : List Cd} {s : Nat → Nat} (h : LInv l s) (hp : pv l = true) {k : Nat} (hk : k < l.length) : LInv l (upd s k (liveAt l s k)) := by
  have hu := upd_up (h.pre k hk)
  refine ⟨fun j hj => ?_, fun j hj => ?_, fun t ht j => ?_, fun j => ?_⟩
  · have := liveAt_mono hu l j
    show sub (upd s k (liveAt l s k) j) _
    unfold upd at this ⊢
    split
    · rename_i e; subst e; exact this
    · exact (h.pre j hj).trans this
  · unfold upd
    rw [if_neg (by omega)]
    exact h.out j hj
  · unfold upd
    split
    · rename_i e; subst e; exact (liveAt_mono (h.low t ht) l j).trans (ht j hk)
    · exact h.low t ht j
  · unfold upd
    split
    · exact liveAt_lt hp h.b16 k hk
    · exact h.b16 j
def Fix (l : List Cd) (s : Nat → Nat) : Prop := LInv l s ∧ ∀ k, k < l.length → s k = liveAt l s k
noncomputable def liveFix (l : List Cd) : Nat → Nat := Classical.epsilon (Fix l)
theorem Fix.eq {l : List Cd} {s : Nat → Nat} (h : Fix l s) : s = liveFix l := by
  have h2 : Fix l (liveFix l) := Classical.epsilon_spec ⟨s, h⟩
  funext k
  refine (h.1.low _ (fun j hj => ?_) k).antisymm (h2.1.low _ (fun j hj => ?_) k)
  · rw [← h2.2 j hj]; exact sub.refl _
  · rw [← h.2 j hj]; exact sub.refl _

def sumN (s : Nat → Nat) : Nat → Nat
  | 0 => 0
  | n + 1 => sumN s n + s n
theorem sumN_le {s : Nat → Nat} (h : ∀ k, s k < 16) : ∀ n, sumN s n ≤ 15 * n
  | 0 => by simp [sumN]
  | n + 1 => by have := sumN_le h n; have := h n; simp only [sumN]; omega
theorem sumN_upd (s : Nat → Nat) (k v : Nat) : ∀ n, sumN (upd s k v) n + (if k < n then s k else 0) = sumN s n + (if k < n then v else 0)
  | 0 => by simp [sumN]
  | n + 1 => by
    have ih := sumN_upd s k v n
    simp only [sumN]
    by_cases e : k = n
    · subst e
      rw [if_neg (by omega), if_neg (by omega)] at ih
      rw [if_pos (by omega), if_pos (by omega)]
      simp [upd]
      omega
    · have hu : upd s k v n = s n := by unfold upd; rw [if_neg (fun h => e h.symm)]
      rw [hu]
      by_cases h : k < n
      · rw [if_pos h, if_pos h] at ih
        rw [if_pos (by omega), if_pos (by omega)]
        omega
      · rw [if_neg h, if_neg h] at ih
        rw [if_neg (by omega), if_neg (by omega)]
        omega
theorem upd_same {s : Nat → Nat} {k v : Nat} (h : v = s k) : upd s k v = s := by
  funext j
  unfold upd
  split
  · rename_i e; subst e; exact h
  · rfl
/-- Within a pass, at place k: what has changed since the pass began with s0. -/
def Mid (l : List Cd) (s0 s : Nat → Nat) (k : Nat) (ch : Bool) : Prop :=
  LInv l s ∧ (ch = false → s = s0 ∧ ∀ j, k ≤ j → j < l.length → s j = liveAt l s j) ∧ (ch = true → sumN s0 l.length < sumN s l.length)
theorem Mid.start {l : List Cd} {s : Nat → Nat} (h : LInv l s) : Mid l s s l.length false := ⟨h, fun _ => ⟨rfl, fun j h1 h2 => by omega⟩, fun h => by cases h⟩
theorem Mid.step {l : List Cd} (hp : pv l = true) {s0 s : Nat → Nat} {k : Nat} {ch : Bool} (h : Mid l s0 s (k + 1) ch) (hk : k < l.length) :
    Mid l s0 (upd s k (liveAt l s k)) k (ch || !((liveAt l s k : Int) == (s k : Int))) := by
  obtain ⟨h1, h2, h3⟩ := h
  have hle : s k ≤ liveAt l s k := (h1.pre k hk).le
  have hsum := sumN_upd s k (liveAt l s k) l.length
  rw [if_pos hk, if_pos hk] at hsum
  refine ⟨h1.step hp hk, fun hc => ?_, fun hc => ?_⟩
  · simp only [Bool.or_eq_false_iff] at hc
    obtain ⟨hc1, hc2⟩ := hc
    have he : liveAt l s k = s k := by
      simp at hc2
      omega
    rw [upd_same he]
    refine ⟨(h2 hc1).1, fun j hj1 hj2 => ?_⟩
    by_cases e : j = k
    · subst e; exact he.symm
    · exact (h2 hc1).2 j (by omega) hj2
  · cases hch : ch with
    | true =>
      have := h3 hch
      omega
    | false =>
      rw [hch] at hc
      simp only [Bool.false_or, Bool.not_eq_true', beq_eq_false_iff_ne] at hc
      have hs := (h2 hch).1
      rw [← hs]
      omega
theorem Mid.done {l : List Cd} {s0 s : Nat → Nat} (h : Mid l s0 s 0 false) : s = liveFix l := Fix.eq ⟨h.1, fun k hk => (h.2.1 rfl).2 k (Nat.zero_le _) hk⟩

/-! ### There is a least solution -/
theorem pass_ex {l : List Cd} (hp : pv l = true) {s : Nat → Nat} (h : LInv l s) : ∀ j, j ≤ l.length → ∃ s' ch, Mid l s s' (l.length - j) ch
  | 0, _ => ⟨s, false, Mid.start h⟩
  | j + 1, hj => by
    obtain ⟨s', ch, hM⟩ := pass_ex hp h j (by omega)
    have e : l.length - j = (l.length - (j + 1)) + 1 := by omega
    rw [e] at hM
    exact ⟨_, _, hM.step hp (by omega)⟩
theorem fix_ex {l : List Cd} (hp : pv l = true) : ∀ (n : Nat) (s : Nat → Nat), LInv l s → 15 * l.length - sumN s l.length ≤ n → ∃ t, Fix l t
  | n, s, h, hn => by
    obtain ⟨s', ch, hM⟩ := pass_ex hp h l.length (Nat.le_refl _)
    rw [Nat.sub_self] at hM
    cases ch with
    | false => exact ⟨s', hM.1, fun k hk => (hM.2.1 rfl).2 k (Nat.zero_le _) hk⟩
    | true =>
      have h1 := hM.2.2 rfl
      have h2 := sumN_le hM.1.b16 l.length
      match n, hn with
      | 0, hn => omega
      | n + 1, hn => exact fix_ex hp n s' hM.1 (by omega)
theorem fix_is {l : List Cd} (hp : pv l = true) : Fix l (liveFix l) := Classical.epsilon_spec (fix_ex hp _ _ (LInv.start l) (Nat.le_refl _))

/-! ### What is dropped -/
noncomputable def deadB (l : List Cd) (k : Nat) : Bool := !(mdiff (wset (cdAt l k)) (outSet l (liveFix l) k) == 0)
noncomputable def deadN (l : List Cd) (n : Nat) : List Nat := (List.range n).filter (deadB l)
noncomputable def deadL (l : List Cd) : List Int := (deadN l l.length).map fun (k : Nat) => (k : Int)
noncomputable def keepN (l : List Cd) (n : Nat) : List Cd := ((List.range n).filter fun k => !deadB l k).map (cdAt l)
noncomputable def dropF : Nat → List Cd → List Cd
  | 0, l => l
  | n + 1, l => if deadN l l.length = [] then l else dropF n (keepN l l.length)
noncomputable def dropDeadL (l : List Cd) : List Cd := if pv l then dropF l.length l else []
theorem deadN_succ (l : List Cd) (n : Nat) : deadN l (n + 1) = deadN l n ++ (if deadB l n then [n] else []) := by
  simp [deadN, List.range_succ, List.filter_append, List.filter_cons]
theorem keepN_succ (l : List Cd) (n : Nat) : keepN l (n + 1) = keepN l n ++ (if deadB l n then [] else [cdAt l n]) := by
  unfold keepN
  rw [List.range_succ, List.filter_append, List.map_append]
  cases h : deadB l n <;> simp [List.filter_cons, h]
theorem deadN_len (l : List Cd) (n : Nat) : (deadN l n).length ≤ n := by
  have := List.length_filter_le (deadB l) (List.range n)
  simpa [deadN] using this
theorem keepN_len (l : List Cd) : ∀ n, (keepN l n).length + (deadN l n).length = n
  | 0 => by simp [keepN, deadN]
  | n + 1 => by
    have := keepN_len l n
    rw [keepN_succ, deadN_succ]
    cases deadB l n <;> simp <;> omega
theorem deadN_mem {l : List Cd} {n k : Nat} : k ∈ deadN l n ↔ k < n ∧ deadB l k = true := by simp [deadN]
theorem deadN_pre (l : List Cd) (k : Nat) : ∀ n, k ≤ n → ∃ r, deadN l n = deadN l k ++ r ∧ ∀ j ∈ r, k ≤ j
  | 0, h => ⟨[], by simp [deadN]; omega, by simp⟩
  | n + 1, h => by
    by_cases e : k = n + 1
    · subst e; exact ⟨[], by simp, by simp⟩
    · obtain ⟨r, h1, h2⟩ := deadN_pre l k n (by omega)
      refine ⟨r ++ (if deadB l n then [n] else []), by rw [deadN_succ, h1, List.append_assoc], ?_⟩
      intro j hj
      rcases List.mem_append.1 hj with hj | hj
      · exact h2 j hj
      · split at hj
        · simp at hj; omega
        · simp at hj
/-- The next dead place at or behind k is k exactly if k is dead. -/
theorem deadN_next {l : List Cd} {k : Nat} (hk : k < l.length) : (deadB l k = true → (deadN l l.length)[(deadN l k).length]? = some k) ∧ (deadB l k = false → ∀ j, (deadN l l.length)[(deadN l k).length]? = some j → j ≠ k) := by
  obtain ⟨r, h1, h2⟩ := deadN_pre l (k + 1) l.length hk
  rw [h1, deadN_succ]
  constructor
  · intro h
    simp [h]
  · intro h j hj
    simp only [h, Bool.false_eq_true, if_false, List.append_nil] at hj
    rw [List.getElem?_append_right (Nat.le_refl _), Nat.sub_self] at hj
    have := h2 j (List.mem_of_getElem? hj)
    omega
theorem keep_pv {l : List Cd} (h : ∀ k, k < l.length → cvOk (cdAt l k) = true) : ∀ n, n ≤ l.length → pvRun [] (keepN l n) = pvRun [] (l.take n)
  | 0, _ => by simp [keepN]
  | n + 1, hn => by
    have ih := keep_pv h n (by omega)
    have hx : l[n]? = some (cdAt l n) := by unfold cdAt; rw [List.getElem?_eq_getElem (by omega)]
    obtain ⟨hk, hx'⟩ := List.getElem?_eq_some_iff.1 hx
    rw [keepN_succ, pvRun_append, ih, List.take_succ_eq_append_getElem hk, pvRun_append, hx']
    cases hs : pvRun [] (l.take n) with
    | none => rfl
    | some s =>
      cases hd : deadB l n with
      | false => rfl
      | true =>
        simp only [if_true]
        have hw : wset (cdAt l n) ≠ 0 := by
          intro e
          simp [deadB, e, mdiff_zero] at hd
        have hv := h n (by omega)
        have hr : 1 ≤ (cdAt l n).op ∧ (cdAt l n).op ≤ 8 := by
          unfold wset at hw
          split at hw
          · rename_i hc
            simp only [Bool.and_eq_true] at hc
            exact inR_iff.1 hc.2
          · exact absurd rfl hw
        have e : ∀ j : Int, 9 ≤ j → ((cdAt l n).op == j) = false := fun j a => by rw [beq_eq_false_iff_ne]; omega
        simp [pvRun, pvStep, hv, e]
theorem keep_ok {l : List Cd} (h : pv l = true) : pv (keepN l l.length) = true := by
  have hp := pv_iff.1 h
  refine pv_iff.2 ⟨by have := keepN_len l l.length; omega, ?_⟩
  rw [keep_pv (fun k hk => pv_all h _ (List.mem_of_getElem? (show l[k]? = some (cdAt l k) by unfold cdAt; rw [List.getElem?_eq_getElem hk]))) _ (Nat.le_refl _), List.take_length]
  exact hp.2
theorem keep_lt {l : List Cd} (h : deadN l l.length ≠ []) : (keepN l l.length).length < l.length := by
  have := keepN_len l l.length
  have : 0 < (deadN l l.length).length := List.length_pos_iff.2 h
  omega
theorem dropF_ok : ∀ (n : Nat) (l : List Cd), pv l = true → pv (dropF n l) = true
  | 0, l, h => h
  | n + 1, l, h => by
    unfold dropF
    split
    · exact h
    · exact dropF_ok n _ (keep_ok h)
theorem dropDeadL_ok {l : List Cd} (h : pv l = true) : pv (dropDeadL l) = true := by
  unfold dropDeadL
  rw [if_pos h]
  exact dropF_ok _ _ h
theorem dropDeadL_len (l : List Cd) : (dropDeadL l).length ≤ 40 := by
  cases h : pv l with
  | true => exact (pv_iff.1 (dropDeadL_ok h)).1
  | false => simp [dropDeadL, h]


/-- The successors of a place, as numbers. -/
def succI (l : List Cd) (k : Nat) : List Int := if k < l.length then (succs l k).map (fun (t : Nat) => (t : Int)) else []
theorem succI_lt {l : List Cd} {k : Nat} (h : k < l.length) : succI l k = (succs l k).map (fun (t : Nat) => (t : Int)) := by unfold succI; rw [if_pos h]
theorem succI_end (l : List Cd) : succI l l.length = [] := by unfold succI; rw [if_neg (by omega)]
/-- A slice of n slices of numbers is read. -/
def GRd (w : World) (B : Nat) (A : Option Addr) (f : Nat → List Int) (n : Nat) : Prop :=
  ∃ vs, Reads w B 1 A n vs ∧ ∀ k, k < n → ∃ A' c', vs[k]? = some (.slice A' (f k).length c') ∧ RdI w B A' (f k)
theorem GRd.below {w w' : World} {B n : Nat} {A : Option Addr} {f : Nat → List Int} (h : GRd w B A f n) (hb : Below B w w') : GRd w' B A f n := by
  obtain ⟨vs, h1, h2⟩ := h
  refine ⟨vs, h1.below hb, fun k hk => ?_⟩
  obtain ⟨A', c', e, hr⟩ := h2 k hk
  exact ⟨A', c', e, hr.below hb⟩
theorem GRd.more {w : World} {B B' n : Nat} {A : Option Addr} {f : Nat → List Int} (h : GRd w B A f n) (hB : B ≤ B') : GRd w B' A f n := by
  obtain ⟨vs, h1, h2⟩ := h
  refine ⟨vs, h1.more hB, fun k hk => ?_⟩
  obtain ⟨A', c', e, hr⟩ := h2 k hk
  exact ⟨A', c', e, hr.more hB⟩
theorem GRd.at_ {w : World} {B n : Nat} {A : Option Addr} {f : Nat → List Int} (h : GRd w B A f n) {k : Nat} (hk : k < n) :
    ∃ b off A' c', A = some ⟨b, off, none⟩ ∧ b < B ∧ w.cell? ⟨b, off + k, none⟩ = some (.slice A' (f k).length c') ∧ RdI w B A' (f k) := by
  obtain ⟨vs, h1, h2⟩ := h
  obtain ⟨A', c', e, hr⟩ := h2 k hk
  obtain ⟨b, off, eA, hb, hc⟩ := h1.2 (by omega)
  exact ⟨b, off, A', c', eA, hb, hc k _ e, hr⟩
/-- A row of own rows of numbers. -/
def GOw (w : World) (base : Nat) (A : Option Addr) (n c : Nat) (f : Nat → List Int) (m : Nat) : Prop :=
  ∃ vs, OR w base 24 1 A n c vs ∧ ∀ k, k < m → ∃ A' c', vs[k]? = some (.slice A' (f k).length c') ∧ OI w base A' (f k).length c' (f k)
theorem GOw.below {w w' : World} {base n c m B : Nat} {A : Option Addr} {f : Nat → List Int} (h : GOw w base A n c f m) (hb : Below B w w') (hB : w.heap.size ≤ B) : GOw w' base A n c f m := by
  obtain ⟨vs, h1, h2⟩ := h
  refine ⟨vs, h1.below hb hB, fun k hk => ?_⟩
  obtain ⟨A', c', e, hr⟩ := h2 k hk
  exact ⟨A', c', e, OR.below hr hb hB⟩
theorem GOw.mono {w : World} {base base' n c m : Nat} {A : Option Addr} {f : Nat → List Int} (h : GOw w base A n c f m) (hb : base' ≤ base) : GOw w base' A n c f m := by
  obtain ⟨vs, h1, h2⟩ := h
  refine ⟨vs, h1.mono hb, fun k hk => ?_⟩
  obtain ⟨A', c', e, hr⟩ := h2 k hk
  exact ⟨A', c', e, OR.mono hr hb⟩
theorem GOw.rd {w : World} {base c n : Nat} {A : Option Addr} {f : Nat → List Int} (h : GOw w base A n c f n) : GRd w w.heap.size A f n := by
  obtain ⟨vs, h1, h2⟩ := h
  refine ⟨vs, h1.reads, fun k hk => ?_⟩
  obtain ⟨A', c', e, hr⟩ := h2 k hk
  exact ⟨A', c', e, OI.rd hr⟩
/-- The row of sets. -/
def lvRow (s : Nat → Nat) (n : Nat) : List Int := (List.range n).map fun k => (s k : Int)
theorem lvRow_len (s : Nat → Nat) (n : Nat) : (lvRow s n).length = n := by simp [lvRow]
theorem lvRow_get (s : Nat → Nat) {n k : Nat} (h : k < n) : (lvRow s n)[k]? = some (s k : Int) := by simp [lvRow, h]
theorem lvRow_set (s : Nat → Nat) (n k v : Nat) : (lvRow s n).set k (v : Int) = lvRow (upd s k v) n := by
  apply List.ext_getElem?
  intro j
  rw [List.getElem?_set, lvRow_len]
  by_cases hj : j < n
  · rw [lvRow_get s hj, lvRow_get (upd s k v) hj]
    unfold upd
    by_cases e : k = j
    · subst e
      rw [if_pos rfl, if_pos hj, if_pos rfl]
    · rw [if_neg e, if_neg (fun h => e h.symm)]
  · have h2 : (lvRow (upd s k v) n)[j]? = none := List.getElem?_eq_none (by rw [lvRow_len]; omega)
    rw [h2]
    by_cases e : k = j
    · subst e
      rw [if_pos rfl, if_neg hj]
    · rw [if_neg e]
      exact List.getElem?_eq_none (by rw [lvRow_len]; omega)

def outTo (l : List Cd) (s : Nat → Nat) (k j : Nat) : Nat := ((succs l k).take j).foldl (fun m t => m ||| s t) 0
theorem outTo_succ {l : List Cd} {s : Nat → Nat} {k j t : Nat} (h : (succs l k)[j]? = some t) : outTo l s k (j + 1) = outTo l s k j ||| s t := by
  obtain ⟨hj, rfl⟩ := List.getElem?_eq_some_iff.1 h
  unfold outTo
  rw [List.take_succ_eq_append_getElem hj, List.foldl_append]
  rfl
theorem outTo_all (l : List Cd) (s : Nat → Nat) (k : Nat) : outTo l s k (succs l k).length = outSet l s k := by
  unfold outTo outSet
  rw [List.take_length]
theorem outTo_lt {s : Nat → Nat} (h : ∀ k, s k < 16) (l : List Cd) (k j : Nat) : outTo l s k j < 16 := fold_or_lt h _ _ (by decide)

set_option maxRecDepth 100000 in
set_option maxHeartbeats 4000000 in
theorem l19Out_c (A AL : Option Addr) (c cL : Nat) (l : List Cd) (s : Nat → Nat) (k : Nat) (w : World) (hG : GRd w w.heap.size A (succI l) (l.length + 1)) (hL : RdI w w.heap.size AL (lvRow s (l.length + 1)))
    (hp : pv l = true) (hk : k < l.length) (hs : ∀ k, s k < 16) :
    Calls Tryz.prog 145 #[.slice A (l.length + 1) c, .slice AL (l.length + 1) cL, .int .i64 k] w fun e w' => e = .returned (.int .i64 (outSet l s k)) ∧ Below w.heap.size w w' := by
  have h40 := (pv_iff.1 hp).1
  obtain ⟨b, off, A', c', rfl, hbB, g0, hr⟩ := hG.at_ (k := k) (by omega)
  have hle := succs_le hp hk
  have hsl : (succI l k).length = (succs l k).length := by rw [succI_lt hk, List.length_map]
  have htwo := succs_two l k
  rw [hsl] at g0
  have hle' := Lib.hid hle
  clear hle
  go_enter Tryz.func145, Tryz.ntmps145
  go_wp2
  go_loopw [7, 8] (fun sv iv wr => ∃ j : Nat, j ≤ (succs l k).length ∧ iv = .int .i64 j ∧ sv = .int .i64 (outTo l s k j) ∧ Below w.heap.size w wr) (fun _ i _ => (succs l k).length - (intOf i).toNat)
  case atStart => exact ⟨0, Nat.zero_le _, rfl, rfl, Below.refl _ _⟩
  case round =>
    obtain ⟨j, hj, rfl, rfl, hb⟩ := hrel
    have g1 := cell_kept hb g0
    by_cases hlt : j < (succs l k).length
    · have ht : (succs l k)[j]? = some ((succs l k)[j]) := List.getElem?_eq_getElem hlt
      generalize (succs l k)[j] = t at ht
      have htl : t ≤ l.length := hle'.out t (List.mem_of_getElem? ht)
      have htI : (succI l k)[j]? = some (t : Int) := by rw [succI_lt hk, List.getElem?_map, ht]; rfl
      obtain ⟨b2, off2, y, rfl, _, hy, g2⟩ := (hr.below hb).at_ (k := j) (by omega)
      rw [htI] at hy
      injection hy with hy
      subst hy
      obtain ⟨b3, off3, y, rfl, _, hy, g3⟩ := (hL.below hb).at_ (k := t) (by rw [lvRow_len]; omega)
      rw [lvRow_get s (by omega)] at hy
      injection hy with hy
      subst hy
      have hst := hs t
      have hot := outTo_lt hs l k j
      have HE := Lib.hid (outTo_succ (s := s) ht)
      have hor := or16 hot hst
      have htn : (t : Int) < ((l.length + 1 : Nat) : Int) := by omega
      clear ht htI
      go_wp2
      go_roundw
      case rel => exact ⟨j + 1, by omega, by go_num, by rw [HE.out], hb⟩
      case measure => simp [intOf]; omega
    · obtain rfl : j = (succs l k).length := by omega
      go_wp2
      go_ret
      exact ⟨reti (by rw [outTo_all]), hb⟩

theorem succI_succ {l : List Cd} {k : Nat} (hk : k < l.length) : succI l k =
    if opAt l k == 11 || opAt l k == 13 then (if overN l k = k + 1 then [((k : Int) + 1)] else [((k : Int) + 1), (overN l k : Int)])
    else if opAt l k == 12 then [((endN l (aroundN l k) : Int) + 1)]
    else if opAt l k == 14 then (if opAt l (aroundN l k) == 13 then [((aroundN l k : Int) + 1), ((k : Int) + 1)] else [((k : Int) + 1)])
    else [((k : Int) + 1)] := by
  rw [succI_lt hk]
  unfold succs
  repeat' split
  all_goals simp

theorem int_lit (w : World) (B : Nat) (hB : B ≤ w.heap.size) (x : Int) : OI (w.alloc (.cells #[.int .i64 x] 3)) B (some ⟨w.heap.size, 0, none⟩) 1 1 [x] := OR.lit w B 3 1 1 #[.int .i64 x] hB (by omega) rfl
theorem int_lit2 (w : World) (B : Nat) (hB : B ≤ w.heap.size) (x y : Int) : OI (w.alloc (.cells #[.int .i64 x, .int .i64 y] 3)) B (some ⟨w.heap.size, 0, none⟩) 2 2 [x, y] := OR.lit w B 3 1 2 #[.int .i64 x, .int .i64 y] hB (by omega) rfl

/-- One row more. -/
theorem GOw.snoc {w w2 : World} {base n c : Nat} {A A' A2 : Option Addr} {c' c2 : Nat} {f : Nat → List Int} {vs : List Value} (h1 : OR w base 24 1 A n c vs) (h2 : ∀ k, k < n → ∃ A' c', vs[k]? = some (.slice A' (f k).length c') ∧ OI w base A' (f k).length c' (f k)) (hi : OI w base A' (f n).length c' (f n)) (hB : base ≤ w.heap.size)
    (hg : (w.alloc (.cells #[.slice A' (f n).length c'] 24)).grownBy w2 (Value.ownBlock (.slice A n c)))
    (ho : OR w2 base 24 1 A2 (n + 1) c2 (vs ++ [.slice A' (f n).length c'])) : GOw w2 base A2 (n + 1) c2 f (n + 1) := by
  have hl : vs.length = n := by have := h1.len; omega
  have kp : ∀ {A'' : Option Addr} {n'' c'' : Nat} {xs : List Int}, OI w base A'' n'' c'' xs → OI w2 base A'' n'' c'' xs := fun {A'' n'' c'' xs} hx => by
    have hx1 : OI (w.alloc (.cells #[.slice A' (f n).length c'] 24)) base A'' n'' c'' xs := OR.alloc hx _
    rcases hx1.2 with ⟨hv, hn⟩ | ⟨g, cap, cur, hv, _, hgb, _⟩
    · exact ⟨hx.1, .inl ⟨hv, hn⟩⟩
    · refine OR.kept hx1 hg (.inr fun e => ?_)
      rw [hv] at e
      have e' : Value.ownBlock (.slice A n c) = some g := e.symm
      exact own_ne (h1.alloc (.cells #[.slice A' (f n).length c'] 24)) hgb (by decide) e'
  refine ⟨_, ho, fun k hk => ?_⟩
  by_cases e : k = n
  · subst e
    exact ⟨A', c', by rw [List.getElem?_append_right (by omega), hl, Nat.sub_self]; rfl, kp hi⟩
  · obtain ⟨B', d', e1, e2⟩ := h2 k (by omega)
    exact ⟨B', d', by rw [List.getElem?_append_left (by omega)]; exact e1, kp e2⟩

section
variable {w : World} {ops : Array Oper} {rest : List Oper} {o : Oper} {a : Act} {Q : Exit → Act → World → Prop}
/-- append of one row of numbers. -/
theorem app_g (hgd : o.guard = none) (s x : Operand) (ho : o.op = .call { callee := .builtin .append, args := #[s, x], argTypes := #[25, 25] })
    (base : Nat) (A : Option Addr) (n c : Nat) (f : Nat → List Int) (hs : a.eval s = .slice A n c)
    (A' : Option Addr) (nn c' : Nat) (wb : World) (hwb : w = wb.alloc (.cells #[.slice A' nn c'] 24)) (gb : Nat) (hgb : gb = wb.heap.size) (hx : a.eval x = .slice (some ⟨gb, 0, none⟩) 1 1)
    (hw : GOw wb base A n c f n) (hnn : nn = (f n).length) (hi : OI wb base A' (f n).length c' (f n)) (hn : n + 1 ≤ 1000000000000) (hbase : base ≤ wb.heap.size)
    (hK : ∀ A2 c2 w2, GOw w2 base A2 (n + 1) c2 f (n + 1) → w.grownBy w2 (Value.ownBlock (.slice A n c)) → wpList Tryz.prog ops Q rest (a.put o.dst (.slice A2 (n + 1) c2)) w2) :
    wpList Tryz.prog ops Q (o :: rest) a w := by
  subst hwb hnn hgb
  obtain ⟨vs, h1, h2⟩ := hw
  refine app_row 25 24 _ 1 24 Tryz.underlying25 infoRows rfl (by decide) (by decide) hgd s x ho base A n c vs (h1.alloc _) hs wb.heap.size 1 1 [.slice A' (f n).length c'] hx rfl (fun j u hu => ?_) (by intro u hu; simp at hu; subst hu; rfl) (by omega) (by simp; omega) (fun A2 c2 w2 hr hg => hK A2 c2 w2 (GOw.snoc h1 h2 hi hbase hg hr) hg)
  match j, hu with
  | 0, hu => simp at hu; subst hu; simp [go_sem]
end

/-- A graph is returned. -/
def RetG (w : World) (l : List Cd) (e : Ending) (w' : World) : Prop :=
  ∃ A c, e = .returned (.slice A (l.length + 1) c) ∧ GOw w' w.heap.size A (l.length + 1) c (succI l) (l.length + 1) ∧ Below w.heap.size w w'

end Go.Proofs.YtelbfeidpcojmaaGreat
