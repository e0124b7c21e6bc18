/- Masks of lists, names of the registers of one instruction. -/
import Derived.Test.YtakeacndmnnbmaaGreatSyn
import Derived.Test.YtakeacndmnnbmaaGreatReads
import Derived.Test.YtakeacndmnnbmaaGreatBits
import Derived.Laws.Cover3
import Derived.Deep.MidRow
namespace Go.Proofs.YtakeacndmnnbmaaGreat
open Go.RowKit
set_option linter.unusedVariables false
set_option linter.unusedSimpArgs false

theorem RdI.at1 {w : World} {B : Nat} {A : Option Addr} {xs : List Int} (h : RdI w B A xs) {k : Nat} (hk : k < xs.length) :
    ∃ b off, A = some ⟨b, off, none⟩ ∧ b < B ∧ ∀ j x, xs[j]? = some x → w.cell? ⟨b, off + j, none⟩ = some (.int .i64 x) := by
  obtain ⟨b, off, e, hb, hc⟩ := h.2 (by omega)
  exact ⟨b, off, e, hb, fun j x hx => hc j _ (by simp [hx])⟩

theorem nm_get {t : List Int} (ht : t.length = 4) {a : Nat} (ha : a ≤ 3) : t[a]? = some (nm t a) := by
  have : a < t.length := by omega
  simp [nm, List.getD_eq_getElem?_getD, List.getElem?_eq_getElem this]

set_option maxRecDepth 100000 in
set_option maxHeartbeats 4000000 in
theorem l22Map_c (x : Cd) (At : Option Addr) (ct : Nat) (t : List Int) (w : World) (hv : cvOk x = true) (ht : t.length = 4) (hT : RdI w w.heap.size At t) :
    Calls Tryz.prog 113 #[x.val, .slice At t.length ct] w fun e w' => e = .returned (ren (nm t) x).val ∧ Below w.heap.size w w' := by
  obtain ⟨bt, ot, rfl, hbt, hcell⟩ := hT.at1 (k := 0) (by omega)
  have ha := cvOk_a hv
  have hb := cvOk_b hv
  have hc := cvOk_c hv
  have hb2 := cvOk_b2 hv
  have ho := op14 hv
  obtain ⟨a, hae⟩ := Int.eq_ofNat_of_zero_le ha.1
  obtain ⟨b, hbe⟩ := Int.eq_ofNat_of_zero_le hb.1
  obtain ⟨c, hce⟩ := Int.eq_ofNat_of_zero_le hc.1
  obtain ⟨o, xa, xb, xc⟩ := x
  simp only at ha hb hc hb2 hae hbe hce ho
  subst hae hbe hce
  have hca := hcell a _ (nm_get ht (by omega))
  have hcc := hcell c _ (nm_get ht (by omega))
  have l3 : (3 : Int) < (t.length : Int) := by omega
  have l4 : a < t.length := by omega
  have l5 : c < t.length := by omega
  have HC := Lib.hid hcell
  have HT := Lib.hid ht
  clear hcell ht hv hT
  unfold Cd.val
  rcases ho with rfl | rfl | rfl | rfl | rfl | rfl | rfl | rfl | rfl | rfl | rfl | rfl | rfl | rfl
  all_goals
    try (have hb3 := (hb2 (by decide)).2; have l6 : b < t.length := by omega
         have hcb := HC.out b _ (nm_get HT.out (by omega)))
    clear hb2
    go_enter Tryz.func113, Tryz.ntmps113
    go_wp2
    exact bodyPost_ret (v := (ren (nm t) ⟨_, a, b, c⟩).val) (by simp [results, Tryz.results113, go_sem, Cd.val, ren, regsN]) rfl ⟨rfl, (by repeat (first | exact Below.refl _ _ | assumption | refine Below.alloc ?_ (by simp <;> omega) _ | refine Below.setCell ?_ (by simp <;> omega) _ | refine Below.drew ?_))⟩

def arr4 (t : List Int) : Value := .agg #[.int .i64 (nm t 0), .int .i64 (nm t 1), .int .i64 (nm t 2), .int .i64 (nm t 3)]

theorem map_take_snoc {α β : Type} (f : α → β) {l : List α} {k : Nat} {x : α} (h : l[k]? = some x) : (l.take (k + 1)).map f = (l.take k).map f ++ [f x] := by
  obtain ⟨hk, rfl⟩ := List.getElem?_eq_some_iff.1 h
  rw [List.take_succ_eq_append_getElem hk, List.map_append]
  rfl

/-- Four cells of a row of instructions are written. -/
theorem row_set {l m : List Cd} {zr : List Value} {k : Nat} {y : Cd} (hx : m[k]? = some y) (hlen : m.length = l.length) (hz : zr.length = l.length * 4) (hk : k < l.length) :
    (((((cdsCells m).take (k * 4) ++ zr.drop (k * 4)).set (k * 4) (.int .i64 y.op)).set (k * 4 + 1) (.int .i64 y.a)).set (k * 4 + 2) (.int .i64 y.b)).set (k * 4 + 3) (.int .i64 y.c) = (cdsCells m).take ((k + 1) * 4) ++ zr.drop ((k + 1) * 4) := by
  have hcl := cdsCells_length m
  have e0 : (cdsCells m)[k * 4]? = some (.int .i64 y.op) := cdsCells_get m k y hx 0 (by omega)
  have e1 : (cdsCells m)[k * 4 + 1]? = some (.int .i64 y.a) := cdsCells_get m k y hx 1 (by omega)
  have e2 : (cdsCells m)[k * 4 + 2]? = some (.int .i64 y.b) := cdsCells_get m k y hx 2 (by omega)
  have e3 : (cdsCells m)[k * 4 + 3]? = some (.int .i64 y.c) := cdsCells_get m k y hx 3 (by omega)
  rw [take_set_drop _ zr _ _ e0 (by omega), take_set_drop _ zr _ _ e1 (by omega), take_set_drop _ zr _ _ e2 (by omega), take_set_drop _ zr _ _ e3 (by omega), show (k + 1) * 4 = k * 4 + 3 + 1 from by omega]

set_option maxRecDepth 100000 in
set_option maxHeartbeats 8000000 in
theorem renamed_c (A : Option Addr) (c : Nat) (l : List Cd) (t : List Int) (w : World) (hA : RdC w w.heap.size A l) (hl : l.length ≤ 1000000000) (hv : ∀ x ∈ l, cvOk x = true) :
    Calls Tryz.prog 47 #[.slice A l.length c, arr4 t] w (RetC w (l.map (ren (nm t)))) := by
  have hmk := make_code l.length (by omega)
  unfold arr4
  go_enter Tryz.func47, Tryz.ntmps47
  go_wp2
  have hz := zeroRow_size (.agg #[.int .i64 0, .int .i64 0, .int .i64 0, .int .i64 0]) (l.length * 4)
  have ho := OR.lit (w.alloc (.cells #[.int .i64 (nm t 0), .int .i64 (nm t 1), .int .i64 (nm t 2), .int .i64 (nm t 3)] 67)) w.heap.size 57 4 l.length _ (by simp) (by omega) hz
  have hT : ∀ j : Nat, j ≤ 3 → ((w.alloc (.cells #[.int .i64 (nm t 0), .int .i64 (nm t 1), .int .i64 (nm t 2), .int .i64 (nm t 3)] 67)).alloc (.cells (zeroRow (.agg #[.int .i64 0, .int .i64 0, .int .i64 0, .int .i64 0]) (l.length * 4)) 57)).cell? ⟨w.heap.size, j, none⟩ = some (.int .i64 (nm t (j : Int))) := by
    intro j hj
    have : j = 0 ∨ j = 1 ∨ j = 2 ∨ j = 3 := by omega
    rcases this with rfl | rfl | rfl | rfl <;> simp [go_sem]
  generalize zeroRow (.agg #[.int .i64 0, .int .i64 0, .int .i64 0, .int .i64 0]) (l.length * 4) = zr at *
  have hzl : zr.toList.length = l.length * 4 := by simpa using hz
  have HZ := Lib.hid hzl
  clear hmk hz hzl
  go_loopw [14] (fun i wr => ∃ k : Nat, k ≤ l.length ∧ i = .int .i64 k ∧ OR wr w.heap.size 57 4 (some ⟨w.heap.size + 1, 0, none⟩) l.length l.length ((cdsCells (l.map (ren (nm t)))).take (k * 4) ++ zr.toList.drop (k * 4)) ∧
    Hid (∀ j : Nat, j ≤ 3 → wr.cell? ⟨w.heap.size, j, none⟩ = some (.int .i64 (nm t (j : Int)))) ∧ Below w.heap.size w wr ∧ w.heap.size + 2 ≤ wr.heap.size) (fun i _ => l.length - (intOf i).toNat)
  case atStart => exact ⟨0, Nat.zero_le _, rfl, by simpa using ho, hT, (by repeat (first | exact Below.refl _ _ | assumption | refine Below.alloc ?_ (by simp <;> omega) _ | refine Below.setCell ?_ (by simp <;> omega) _ | refine Below.drew ?_)), by simp⟩
  case round =>
    clear ho hT
    obtain ⟨k, hk, rfl, ho, HT, hb, hsz2⟩ := hrel
    by_cases hlt : k < l.length
    · obtain ⟨b, off, x, rfl, hbB, hx, c0, c1, c2, c3⟩ := (hA.below hb).at_ hlt
      have hvx := hv x (List.mem_of_getElem? hx)
      have hM : (l.map (ren (nm t)))[k]? = some (ren (nm t) x) := by rw [List.getElem?_map, hx]; rfl
      have HM := Lib.hid hM
      have hsz := hb.size
      have ha := cvOk_a hvx
      have hbb := cvOk_b hvx
      have hcc := cvOk_c hvx
      have hb2 := cvOk_b2 hvx
      have hop := op14 hvx
      obtain ⟨xa, hxa⟩ := Int.eq_ofNat_of_zero_le ha.1
      obtain ⟨xb, hxb⟩ := Int.eq_ofNat_of_zero_le hbb.1
      obtain ⟨xc, hxc⟩ := Int.eq_ofNat_of_zero_le hcc.1
      obtain ⟨o, xa', xb', xc'⟩ := x
      simp only at ha hbb hcc hb2 hxa hxb hxc hop c0 c1 c2 c3
      subst hxa hxb hxc
      have t0 := HT.out xa (by omega)
      have t2 := HT.out xc (by omega)
      have lt0 : xa < 4 := by omega
      have lt2 : xc < 4 := by omega
      have HX := Lib.hid hx
      clear hx hM hvx
      obtain ⟨u0, hu0⟩ := ho.some_cell (k * 4) (by omega)
      obtain ⟨u1, hu1⟩ := ho.some_cell (k * 4 + 1) (by omega)
      obtain ⟨u2, hu2⟩ := ho.some_cell (k * 4 + 2) (by omega)
      obtain ⟨u3, hu3⟩ := ho.some_cell (k * 4 + 3) (by omega)
      have hf0 := ho.at0.2.1 (k * 4)
      have hf1 := ho.at0.2.1 (k * 4 + 1)
      have hf2 := ho.at0.2.1 (k * 4 + 2)
      have hf3 := ho.at0.2.1 (k * 4 + 3)
      have hne1 : ¬ w.heap.size + 1 = wr.heap.size := by omega
      have hne2 : ¬ w.heap.size = wr.heap.size := by omega
      have hlt1 : w.heap.size + 1 < wr.heap.size := by omega
      have hlt2 : w.heap.size < wr.heap.size := by omega
      have hR : regsN o = 0 ∨ regsN o = 1 ∨ (regsN o = 2 ∧ xb ≤ 3) ∨ (regsN o = 3 ∧ xb ≤ 3) := by
        rcases hop with h | h | h | h | h | h | h | h | h | h | h | h | h | h <;> subst h
        · exact .inr (.inl rfl)
        · exact .inr (.inl rfl)
        · exact .inr (.inr (.inl ⟨rfl, by have := hb2 (by omega); omega⟩))
        · exact .inr (.inr (.inl ⟨rfl, by have := hb2 (by omega); omega⟩))
        · exact .inr (.inr (.inl ⟨rfl, by have := hb2 (by omega); omega⟩))
        · exact .inr (.inr (.inr ⟨rfl, by have := hb2 (by omega); omega⟩))
        · exact .inr (.inr (.inr ⟨rfl, by have := hb2 (by omega); omega⟩))
        · exact .inr (.inr (.inl ⟨rfl, by have := hb2 (by omega); omega⟩))
        · exact .inr (.inr (.inl ⟨rfl, by have := hb2 (by omega); omega⟩))
        · exact .inl rfl
        · exact .inr (.inl rfl)
        · exact .inl rfl
        · exact .inr (.inl rfl)
        · exact .inl rfl
      clear hb2 hop
      rcases hR with hR | hR | ⟨hR, lb⟩ | ⟨hR, lb⟩
      all_goals
        try have lt1 : xb < 4 := by omega
        try have t1 := HT.out xb lb
        have HRR := Lib.hid hR
        go_wp2_with (go_at_call 73; refine (registers_c _ _).mono ?_; rintro e w' ⟨rfl, rfl⟩)
        go_roundw
        case rel =>
          refine ⟨k + 1, by omega, by go_num, ?_, ?_, ?_, ?_⟩
          · have h1 := row_set HM.out (by simp) HZ.out hlt
            have h2 := (((((ho.at0.2.2 (k * 4) (.int .i64 (ren (nm t) ⟨o, xa, xb, xc⟩).op)).at0.2.2 (k * 4 + 1) (.int .i64 (ren (nm t) ⟨o, xa, xb, xc⟩).a))).at0.2.2 (k * 4 + 2) (.int .i64 (ren (nm t) ⟨o, xa, xb, xc⟩).b))).at0.2.2 (k * 4 + 3) (.int .i64 (ren (nm t) ⟨o, xa, xb, xc⟩).c)
            rw [h1] at h2
            simp only [ren, HRR.out] at h2
            exact OR.alloc h2 _
          · intro j hj
            have := HT.out j hj
            simp [go_sem, this, hlt2]
          · exact ((((hb.setCell (by simp) _).setCell (by simp) _).setCell (by simp) _).setCell (by simp) _).alloc (by simpa [size_set] using hsz) _
          · simp; omega
        case measure => simp [intOf]; omega
    · obtain rfl : k = l.length := by omega
      go_wp2
      go_ret
      refine RetC.of ?_ hb
      rw [List.take_of_length_le (by rw [cdsCells_length, List.length_map]; omega), List.drop_of_length_le (by rw [HZ.out]; omega), List.append_nil] at ho
      exact ho

theorem orBits_lt4 {xs : List Int} (h : allIn xs 4 = true) : orBits xs < 256 := orBits_lt (by decide) h

def IRRel (t : List Int) (iv mv : Value) : Prop :=
  ∃ k : Nat, k ≤ t.length ∧ iv = .int .i64 k ∧ mv = .int .i64 (orBits (t.take k)) ∧ allIn (t.take k) 4 = true

theorem nameOk_len {t : List Int} (h : t.length ≠ 4) : nameOk t = false := by simp [nameOk, h]
theorem nameOk_bad {t : List Int} (h : allIn t 4 = false) : nameOk t = false := by
  have : maskOfI t 4 = -1 := by simp [maskOfI, h]
  simp [nameOk, this]
theorem nameOk_mask {t : List Int} (hl : t.length = 4) (h : allIn t 4 = true) : nameOk t = (((orBits t : Nat) : Int) == 15) := by
  have e : inR 4 1 8 = true := rfl
  simp [nameOk, maskOfI, h, hl, e]

theorem arr4_of {t : List Int} (h : t.length = 4) : ∀ j : Nat, j < 4 → t[j]? = some (nm t (j : Int)) := fun j hj => nm_get h (by omega)

def SNRel (w : World) (l : List Cd) (t : List Int) (ov iv : Value) (wr : World) : Prop :=
  ∃ (k : Nat) (A : Option Addr) (n c : Nat), k ≤ l.length ∧ iv = .int .i64 k ∧ ov = .slice A n c ∧ OC wr w.heap.size A n c ((l.take k).map (ren (nm t))) ∧ n = k ∧ Below w.heap.size w wr

set_option maxRecDepth 100000 in
set_option maxHeartbeats 4000000 in
theorem sRenameRegs_c (A At : Option Addr) (c ct : Nat) (l : List Cd) (t : List Int) (w : World) (hA : RdC w w.heap.size A l) (hl : l.length ≤ 1000000000) (hT : RdI w w.heap.size At t) (htl : t.length ≤ 1000000000) :
    Calls Tryz.prog 87 #[.slice A l.length c, .slice At t.length ct] w (RetC w (renameL l t)) := by
  by_cases h4 : t.length = 4
  · have H4 := Lib.hid h4
    have e4 : ((t.length : Int) != 4) = false := by simp [h4]
    have e15 : maskAllI 4 = 15 := by decide
    cases hok : maskOfI t 4 == 15 with
    | false =>
      have hn : (maskOfI t 4 != 15) = true := by simp [bne, hok]
      have HR := Lib.hid (show renameL l t = [] by simp [renameL, nameOk, hok])
      clear hok h4
      go_enter Tryz.func87, Tryz.ntmps87
      go_wp2_with fail
      have hb0 : Below w.heap.size w (w.alloc (.cells #[] 57)) := (by repeat (first | exact Below.refl _ _ | assumption | refine Below.alloc ?_ (by simp <;> omega) _ | refine Below.setCell ?_ (by simp <;> omega) _ | refine Below.drew ?_))
      refine (sMaskOf_c At ct t 4 _ ((hT.below hb0).more hb0.size) htl).mono ?_
      rintro e w1 ⟨rfl, rfl⟩
      go_wp2_with fail
      refine (sMaskAll_c 4 _).mono ?_
      rintro e w1 ⟨rfl, rfl⟩
      go_wp2
      go_ret
      rw [HR.out]
      exact RetC.of (OC.empty_ w _ (Nat.le_refl _)) hb0
    | true =>
      have hn : (maskOfI t 4 != 15) = false := by simp [bne, hok]
      have hnk : nameOk t = true := by simp [nameOk, h4, hok]
      have HN := Lib.hid hnk
      clear hok h4 hnk
      cases hp : pv l with
      | false =>
        have HR := Lib.hid (show renameL l t = [] by simp [renameL, hp])
        go_enter Tryz.func87, Tryz.ntmps87
        go_wp2_with fail
        have hb0 : Below w.heap.size w (w.alloc (.cells #[] 57)) := (by repeat (first | exact Below.refl _ _ | assumption | refine Below.alloc ?_ (by simp <;> omega) _ | refine Below.setCell ?_ (by simp <;> omega) _ | refine Below.drew ?_))
        refine (sMaskOf_c At ct t 4 _ ((hT.below hb0).more hb0.size) htl).mono ?_
        rintro e w1 ⟨rfl, rfl⟩
        go_wp2_with fail
        refine (sMaskAll_c 4 _).mono ?_
        rintro e w1 ⟨rfl, rfl⟩
        go_wp2
        go_loopw [5, 6] (fun ov iv wr => ∃ (A1 : Option Addr) (c1 : Nat), iv = .int .i64 0 ∧ ov = .slice A1 0 c1 ∧ OC wr w.heap.size A1 0 c1 [] ∧ Below w.heap.size w wr) (fun _ _ _ => 0)
        case atStart => exact ⟨_, _, rfl, rfl, OC.empty_ w _ (Nat.le_refl _), hb0⟩
        case round =>
          obtain ⟨A1, c1, rfl, rfl, ho, hb⟩ := hrel
          by_cases hlt : 0 < l.length
          · go_wp2_with fail
            refine (sProgramValid_c A c l wr ((hA.below hb).more hb.size) hl).mono ?_
            rintro e w1 ⟨rfl, hb1⟩
            go_wp2
            go_ret
            rw [HR.out]
            exact RetC.of (OR.below ho hb1 (Nat.le_refl _)) (below_trans hb (Nat.le_refl _) hb1)
          · have h0 : ¬ (0 : Int) < (l.length : Int) := by omega
            go_wp2
            go_ret
            rw [HR.out]
            exact RetC.of ho hb
      | true =>
        have HR := Lib.hid (show renameL l t = l.map (ren (nm t)) by simp [renameL, hp, HN.out])
        have HV := Lib.hid (pv_all hp)
        go_enter Tryz.func87, Tryz.ntmps87
        go_wp2_with fail
        have hb0 : Below w.heap.size w (w.alloc (.cells #[] 57)) := (by repeat (first | exact Below.refl _ _ | assumption | refine Below.alloc ?_ (by simp <;> omega) _ | refine Below.setCell ?_ (by simp <;> omega) _ | refine Below.drew ?_))
        refine (sMaskOf_c At ct t 4 _ ((hT.below hb0).more hb0.size) htl).mono ?_
        rintro e w1 ⟨rfl, rfl⟩
        go_wp2_with fail
        refine (sMaskAll_c 4 _).mono ?_
        rintro e w1 ⟨rfl, rfl⟩
        go_wp2
        go_loopw [5, 6] (fun ov iv wr => SNRel w l t ov iv wr) (fun _ i _ => l.length - (intOf i).toNat)
        case atStart => exact ⟨0, _, 0, 0, Nat.zero_le _, rfl, rfl, OC.empty_ w _ (Nat.le_refl _), rfl, hb0⟩
        case round =>
          obtain ⟨k, A1, n, c1, hk, rfl, rfl, ho, rfl, hb⟩ := hrel
          by_cases hlt : n < l.length
          · go_wp2_with fail
            refine (sProgramValid_c A c l wr ((hA.below hb).more hb.size) hl).mono ?_
            rintro e w0 ⟨rfl, hb0'⟩
            have ho0 := ho.below hb0' (Nat.le_refl _)
            have hb' := below_trans hb (Nat.le_refl _) hb0'
            obtain ⟨b, off, x, rfl, hbB, hx, c0, c1', c2, c3⟩ := (hA.below hb').at_ hlt
            have hvx := HV.out x (List.mem_of_getElem? hx)
            have HM := Lib.hid (map_take_snoc (ren (nm t)) hx)
            clear hx
            go_wp2_with fail
            refine (l22Map_c x At ct t w0 hvx H4.out ((hT.below hb').more hb'.size)).mono ?_
            rintro e w1 ⟨rfl, hb1⟩
            have ho1 := ho0.below hb1 (Nat.le_refl _)
            have hb2 := below_trans hb' (Nat.le_refl _) hb1
            generalize ren (nm t) x = y at *
            clear hvx c0 c1' c2 c3
            obtain ⟨yo, ya, yb, yc⟩ := y
            unfold Cd.val
            go_wp2_with (at_builtin; refine app_code rfl _ _ rfl w.heap.size _ _ _ _ (ho1.alloc _) rfl ⟨yo, ya, yb, yc⟩ w1.heap.size 1 rfl ?h0 ?h1 ?h2 ?h3 ?hn ?hbase ?_)
            case hn => omega
            case hbase => have := hb2.size; simp; omega
            intro A' c' w3 ho2 hg2
            go_wp2
            go_roundw
            case rel => exact ⟨n + 1, A', n + 1, c', by omega, by go_num, rfl, by rw [HM.out, List.map_take]; exact ho2, rfl, below_app hb2 hb2.size ho1 (Nat.le_refl _) hg2⟩
            case measure => simp [intOf]; omega
          · obtain rfl : n = l.length := by omega
            go_wp2
            go_ret
            rw [HR.out]
            rw [List.take_length] at ho
            exact RetC.of ho hb
  · have HR := Lib.hid (show renameL l t = [] by simp [renameL, nameOk_len h4])
    have e4 : ((t.length : Int) != 4) = true := by rw [bne_iff_ne]; omega
    go_enter Tryz.func87, Tryz.ntmps87
    go_wp2
    go_ret
    rw [HR.out]
    exact RetC.of (OC.empty_ w _ (Nat.le_refl _)) (by repeat (first | exact Below.refl _ _ | assumption | refine Below.alloc ?_ (by simp <;> omega) _ | refine Below.setCell ?_ (by simp <;> omega) _ | refine Below.drew ?_))

theorem OI4 (w : World) (B : Nat) (a b c d : Int) (hB : B ≤ w.heap.size) : OI (w.alloc (.cells #[.int .i64 a, .int .i64 b, .int .i64 c, .int .i64 d] 3)) B (some ⟨w.heap.size, 0, none⟩) 4 4 [a, b, c, d] :=
  (OR.lit w w.heap.size _ 1 4 #[.int .i64 a, .int .i64 b, .int .i64 c, .int .i64 d] (Nat.le_refl _) (by omega) rfl).mono hB

theorem OC.empty2 (w : World) (o : Obj) : OC ((w.alloc o).alloc (.cells #[] 57)) w.heap.size (some ⟨w.heap.size + 1, 0, none⟩) 0 0 [] := by
  have := OC.empty_ (w.alloc o) w.heap.size (by simp)
  simpa using this
theorem call_renamed (p q r s : Int) (A : Option Addr) (c : Nat) (l : List Cd) (w : World) (hA : RdC w w.heap.size A l) (hl : l.length ≤ 1000000000) (hv : ∀ x ∈ l, cvOk x = true) :
    Calls Tryz.prog 47 #[.slice A l.length c, .agg #[.int .i64 p, .int .i64 q, .int .i64 r, .int .i64 s]] (w.alloc (.cells #[.int .i64 p, .int .i64 q, .int .i64 r, .int .i64 s] 67)) (RetC w (l.map (ren (nm [p, q, r, s])))) := by
  have hb : Below w.heap.size w (w.alloc (.cells #[.int .i64 p, .int .i64 q, .int .i64 r, .int .i64 s] 67)) := (Below.refl _ _).alloc (Nat.le_refl _) _
  refine (renamed_c A c l [p, q, r, s] _ ((hA.below hb).more hb.size) hl hv).mono ?_
  intro e w' h
  exact h.mono hb

theorem call_ren (p q r s : Int) (A : Option Addr) (c : Nat) (l : List Cd) (w : World) (hA : RdC w w.heap.size A l) (hl : l.length ≤ 1000000000) :
    Calls Tryz.prog 87 #[.slice A l.length c, .slice (some ⟨w.heap.size, 0, none⟩) 4 4] (w.alloc (.cells #[.int .i64 p, .int .i64 q, .int .i64 r, .int .i64 s] 3)) (RetC w (renameL l [p, q, r, s])) := by
  have hb : Below w.heap.size w (w.alloc (.cells #[.int .i64 p, .int .i64 q, .int .i64 r, .int .i64 s] 3)) := (Below.refl _ _).alloc (Nat.le_refl _) _
  have ho : OI (w.alloc (.cells #[.int .i64 p, .int .i64 q, .int .i64 r, .int .i64 s] 3)) w.heap.size (some ⟨w.heap.size, 0, none⟩) ([p, q, r, s] : List Int).length 4 [p, q, r, s] := OI4 w _ p q r s (Nat.le_refl _)
  refine (sRenameRegs_c A _ c 4 l [p, q, r, s] _ ((hA.below hb).more hb.size) hl (OI.rd ho) (by simp)).mono ?_
  intro e w' h
  exact h.mono hb

set_option maxRecDepth 100000 in
set_option maxHeartbeats 8000000 in
theorem iSwapRegs_c (A : Option Addr) (c : Nat) (l : List Cd) (a b : Int) (w : World) (hA : RdC w w.heap.size A l) (hl : l.length ≤ 1000000000) :
    Calls Tryz.prog 23 #[.slice A l.length c, .int .i64 a, .int .i64 b] w (RetC w (swapL l a b)) := by
  cases hp : pv l with
  | false =>
    have HR := Lib.hid (show swapL l a b = [] by simp [swapL, hp])
    go_enter Tryz.func23, Tryz.ntmps23
    go_wp2_with fail
    refine (iProgramValid_c A c l w hA hl).mono ?_
    rintro e w1 ⟨rfl, hb⟩
    go_wp2
    go_ret
    rw [HR.out]
    exact RetC.of (OC.nil_ _ _) hb
  | true =>
    have HV := Lib.hid (pv_all hp)
    cases h : (inR a 0 3 && inR b 0 3) with
    | false =>
      have HR := Lib.hid (show swapL l a b = [] by simp [swapL, h])
      have h2 : inR a 0 3 = false ∨ (inR a 0 3 = true ∧ inR b 0 3 = false) := by
        cases ha : inR a 0 3 with
        | false => exact .inl rfl
        | true => rw [ha, Bool.true_and] at h; exact .inr ⟨rfl, h⟩
      clear h
      rcases h2 with h2 | ⟨h2, h3⟩
      all_goals
        go_enter Tryz.func23, Tryz.ntmps23
        go_wp2_with fail
        refine (iProgramValid_c A c l w hA hl).mono ?_
        rintro e w1 ⟨rfl, hb⟩
        go_wp2_with (go_at_call 46; refine (isReg_c _ _).mono ?_; rintro e w' ⟨rfl, rfl⟩)
        go_ret
        rw [HR.out]
        exact RetC.of (OC.nil_ _ _) hb
    | true =>
      have HR := Lib.hid (show l.map (ren (nm (swapTo a b))) = swapL l a b by simp [swapL, hp, h])
      simp only [Bool.and_eq_true, inR_iff] at h
      obtain ⟨ha, hb⟩ := h
      have h1 : a = 0 ∨ a = 1 ∨ a = 2 ∨ a = 3 := by omega
      have h2 : b = 0 ∨ b = 1 ∨ b = 2 ∨ b = 3 := by omega
      clear ha hb
      rcases h1 with rfl | rfl | rfl | rfl <;> rcases h2 with rfl | rfl | rfl | rfl
      all_goals
        go_enter Tryz.func23, Tryz.ntmps23
        go_wp2_with fail
        refine (iProgramValid_c A c l w hA hl).mono ?_
        rintro e w1 ⟨rfl, hb⟩
        have hA1 := (hA.below hb).more hb.size
        go_wp2_with (go_at_call 46; refine (isReg_c _ _).mono ?_; rintro e w' ⟨rfl, rfl⟩)
        refine (call_renamed _ _ _ _ A c l w1 hA1 hl HV.out).mono ?_
        intro e w2 h
        obtain ⟨A2, c2, rfl, ho, hb2⟩ := h.mono hb
        go_wp2
        go_ret
        rw [← HR.out]
        exact ⟨A2, c2, by simp only [List.length_map]; rfl, ho, hb2⟩

def row4 (t : List Int) : Array Value := #[.int .i64 (nm t 0), .int .i64 (nm t 1), .int .i64 (nm t 2), .int .i64 (nm t 3)]
theorem row4_set {t : List Int} (ht : t.length = 4) {r : Nat} (hr : r < 4) (v : Int) : (row4 t).setIfInBounds r (.int .i64 v) = row4 (t.set r v) := by
  match t, ht with
  | [a, b, c, d], _ =>
    have : r = 0 ∨ r = 1 ∨ r = 2 ∨ r = 3 := by omega
    rcases this with rfl | rfl | rfl | rfl <;> rfl
theorem row4_get (t : List Int) {r : Nat} (hr : r < 4) : (row4 t)[r]? = some (.int .i64 (nm t (r : Int))) := by
  have : r = 0 ∨ r = 1 ∨ r = 2 ∨ r = 3 := by omega
  rcases this with rfl | rfl | rfl | rfl <;> rfl
theorem packSt_len (u : Nat) : ∀ i, (packSt u i).2.length = 4 ∧ (packSt u i).1 ≤ i
  | 0 => ⟨rfl, Nat.le_refl _⟩
  | i + 1 => by
    have h := packSt_len u i
    unfold packSt
    dsimp only
    split
    · exact ⟨by simp [h.1], by simp; omega⟩
    · exact ⟨h.1, by omega⟩
theorem packSi_len (u : Nat) : ∀ i, (packSi u i).2.length = 4 ∧ (packSi u i).1 ≤ i
  | 0 => ⟨rfl, Nat.le_refl _⟩
  | i + 1 => by
    have h := packSi_len u i
    unfold packSi
    dsimp only
    split
    · exact ⟨by simp [h.1], by simp; omega⟩
    · exact ⟨h.1, by omega⟩

def PIRel (w : World) (u B : Nat) (iv nv : Value) (wr : World) : Prop :=
  ∃ r : Nat, r ≤ 4 ∧ iv = .int .i64 r ∧ nv = .int .i64 ((packSi u r).1 : Nat) ∧ Hid (wr.heap[B]? = some (.cells (row4 (packSi u r).2) 67 (0, 0))) ∧ Below w.heap.size w wr

set_option maxRecDepth 100000 in
set_option maxHeartbeats 4000000 in
theorem ipackRegs_c (A : Option Addr) (c : Nat) (l : List Cd) (w : World) (hA : RdC w w.heap.size A l) (hl : l.length ≤ 1000000000) (hp : pv l = true) :
    Calls Tryz.prog 43 #[.slice A l.length c] w (RetC w (packL l)) := by
  have HR := Lib.hid (show packL l = l.map (ren (nm (packSi (usedOf l) 4).2)) by simp [packL, hp])
  have HV := Lib.hid (pv_all hp)
  have hu := usedOf_lt l
  clear hp
  go_enter Tryz.func43, Tryz.ntmps43
  go_wp2_with fail
  have hb0 : Below w.heap.size w (w.alloc (.cells #[.int .i64 0, .int .i64 0, .int .i64 0, .int .i64 0] 67)) := (by repeat (first | exact Below.refl _ _ | assumption | refine Below.alloc ?_ (by simp <;> omega) _ | refine Below.setCell ?_ (by simp <;> omega) _ | refine Below.drew ?_))
  have hz : w.heap.size < (w.alloc (.cells #[.int .i64 0, .int .i64 0, .int .i64 0, .int .i64 0] 67)).heap.size := by simp
  refine (iregsUsed_c A c l _ ((hA.below hb0).more hb0.size) hl).mono ?_
  rintro e w1 ⟨rfl, hb1⟩
  have hb := below_trans hb0 (Nat.le_refl _) hb1
  have hh : w1.heap[w.heap.size]? = some (.cells #[.int .i64 0, .int .i64 0, .int .i64 0, .int .i64 0] 67 (0, 0)) := by
    rw [hb1.block _ hz]
    exact heap_alloc_new w _
  generalize usedOf l = u at *
  have HH := Lib.hid hh
  clear hh
  go_wp2
  go_loopw [9, 4] (fun iv nv wr => PIRel w u w.heap.size iv nv wr) (fun i _ _ => 4 - (intOf i).toNat)
  case atStart => exact ⟨0, by omega, rfl, rfl, HH, hb⟩
  case round =>
    obtain ⟨r, hr, rfl, rfl, H4, hb⟩ := hrel
    have hlen := packSi_len u r
    by_cases hlt : r < 4
    · have hcell : wr.cell? ⟨w.heap.size, r, none⟩ = some (.int .i64 (nm (packSi u r).2 (r : Int))) := by rw [cell_of_heap H4.out, row4_get _ hlt]
      have hfree := free_of_heap H4.out r
      have HS := Lib.hid (show packSi u (r + 1) = if (u >>> r) % 2 = 1 then ((packSi u r).1 + 1, (packSi u r).2.set r ((packSi u r).1 : Int)) else packSi u r from rfl)
      have HL := Lib.hid hlen.1
      have hn := hlen.2
      generalize packSi u r = s at *
      obtain ⟨n, t⟩ := s
      simp only at *
      clear hlen
      have hba := bit_and u r (by omega)
      by_cases hbit : (u >>> r) % 2 = 1
      · have hb1 : (bits .and .i64 ((u : Int) / 2 ^ r) 1 == 1) = true := by rw [hba, hbit]; rfl
        have HB := Lib.hid hbit
        clear hba hbit
        go_wp2
        go_roundw
        case rel =>
          have hs := HS.out
          rw [if_pos HB.out] at hs
          refine ⟨r + 1, by omega, by go_num, by rw [hs]; go_num, ?_, hb.setCell (Nat.le_refl _) _⟩
          show _ = _
          rw [heap_set_same H4.out, row4_set HL.out hlt, hs]
        case measure => simp [intOf]; omega
      · have hb1 : (bits .and .i64 ((u : Int) / 2 ^ r) 1 == 1) = false := by
          rw [hba, beq_eq_false_iff_ne]; omega
        have HB := Lib.hid hbit
        clear hba hbit
        go_wp2
        go_roundw
        case rel =>
          have hs := HS.out
          rw [if_neg HB.out] at hs
          exact ⟨r + 1, by omega, by go_num, by rw [hs], by show _ = _; rw [hs]; exact H4.out, hb⟩
        case measure => simp [intOf]; omega
    · obtain rfl : r = 4 := by omega
      have c0 := cell_of_heap H4.out 0
      have c1 := cell_of_heap H4.out 1
      have c2 := cell_of_heap H4.out 2
      have c3 := cell_of_heap H4.out 3
      rw [row4_get _ (by omega)] at c0 c1 c2 c3
      go_wp2_with fail
      refine (renamed_c A c l (packSi u 4).2 wr ((hA.below hb).more hb.size) hl HV.out).mono ?_
      clear c0 c1 c2 c3
      intro e w2 h
      obtain ⟨A2, c2, rfl, ho, hb2⟩ := h.mono hb
      go_wp2
      go_ret
      rw [HR.out]
      exact ⟨A2, c2, by simp only [List.length_map]; rfl, ho, hb2⟩

theorem rd_row4 {w : World} {B : Nat} {t : List Int} (ht : t.length = 4) (h : w.heap[B]? = some (.cells (row4 t) 3 (0, 0))) : RdI w w.heap.size (some ⟨B, 0, none⟩) t := by
  refine ⟨by simp, fun _ => ⟨B, 0, rfl, lt_of_block h, fun j u hu => ?_⟩⟩
  rw [Nat.zero_add, cell_of_heap h]
  have hj : j < 4 := by
    have := (List.getElem?_eq_some_iff.1 hu).1
    simpa [ht] using this
  rw [row4_get _ hj, ← hu, List.getElem?_map, nm_get ht (by omega)]
  rfl
theorem ren_row4 {w : World} {B : Nat} (A : Option Addr) (c : Nat) (l : List Cd) (t : List Int) (ht : t.length = 4) (h : w.heap[B]? = some (.cells (row4 t) 3 (0, 0))) (hA : RdC w w.heap.size A l) (hl : l.length ≤ 1000000000) :
    Calls Tryz.prog 87 #[.slice A l.length c, .slice (some ⟨B, 0, none⟩) 4 4] w (RetC w (renameL l t)) := by
  have := sRenameRegs_c A (some ⟨B, 0, none⟩) c 4 l t w hA hl (rd_row4 ht h) (by omega)
  rw [ht] at this
  exact this

theorem pass_bit (u r p : Nat) : (p < 2 → (u >>> r) % 2 = 1 - p → (((u : Int) / 2 ^ r).tmod 2 == 1 - (p : Int)) = true) ∧ (p < 2 → ¬ (u >>> r) % 2 = 1 - p → (((u : Int) / 2 ^ r).tmod 2 == 1 - (p : Int)) = false) := by
  rw [shr_cast]
  generalize u >>> r = m
  rw [Int.tmod_eq_emod_of_nonneg (by omega)]
  refine ⟨fun hp h => ?_, fun hp h => ?_⟩
  · rw [beq_iff_eq]; omega
  · rw [beq_eq_false_iff_ne]; omega

def SKRel0 (w : World) (B : Nat) (i : Nat) (nv : Value) (wr : World) : Prop :=
  ∃ (n : Nat) (t : List Int), nv = .int .i64 n ∧ n ≤ i ∧ Hid (t.length = 4) ∧ Hid (wr.heap[B]? = some (.cells (row4 t) 3 (0, 0))) ∧ Below w.heap.size w wr ∧ w.heap.size ≤ B

def SKRel (w : World) (u B : Nat) (i : Nat) (nv : Value) (wr : World) : Prop :=
  nv = .int .i64 ((packSt u i).1 : Nat) ∧ Hid (wr.heap[B]? = some (.cells (row4 (packSt u i).2) 3 (0, 0))) ∧ Below w.heap.size w wr ∧ w.heap.size ≤ B

set_option maxRecDepth 100000 in
set_option maxHeartbeats 4000000 in
theorem sPackRegs_c (A : Option Addr) (c : Nat) (l : List Cd) (w : World) (hA : RdC w w.heap.size A l) (hl : l.length ≤ 1000000000) :
    Calls Tryz.prog 58 #[.slice A l.length c] w (RetC w (packL l)) := by
  have hmk := make_int 4 (by omega)
  have hz4 : zeroRow (.int .i64 0) 4 = #[.int .i64 0, .int .i64 0, .int .i64 0, .int .i64 0] := by
    apply Array.ext'
    exact (toList_madeCells_one _ _).trans rfl
  rw [hz4] at hmk
  have hmk' : ∀ w : World, (Instr.makeSlice 23 (.int .i64 4) (.int .i64 4)).run Tryz.prog w = .ok (.slice (some ⟨w.heap.size, 0, none⟩) 4 4) (w.alloc (.cells #[.int .i64 0, .int .i64 0, .int .i64 0, .int .i64 0] 3)) := hmk
  clear hmk hz4
  cases hp : pv l with
  | true =>
    have HR := Lib.hid (pack_same hp)
    have hu := usedOf_lt l
    have hru : regsUsedI l = (usedOf l : Int) := by simp [regsUsedI, hp]
    clear hp
    go_enter Tryz.func58, Tryz.ntmps58
    go_wp2_with fail
    refine (sRegsUsed_c A c l w hA hl).mono ?_
    rintro e w1 ⟨rfl, hb⟩
    rw [hru]
    clear hru
    generalize usedOf l = u at *
    have hb1 := hb.alloc hb.size (.cells #[.int .i64 0, .int .i64 0, .int .i64 0, .int .i64 0] 3)
    have hsz := hb.size
    go_wp2
    clear hmk'
    have HH : Hid ((w1.alloc (.cells #[.int .i64 0, .int .i64 0, .int .i64 0, .int .i64 0] 3)).heap[w1.heap.size]? = some (.cells (row4 (packSt u 0).2) 3 (0, 0))) := heap_alloc_new w1 _
    go_loopw [6, 5] (fun pv nv wr => ∃ p : Nat, p ≤ 2 ∧ pv = .int .i64 (1 - (p : Int)) ∧ SKRel w u w1.heap.size (4 * p) nv wr) (fun pv _ _ => (intOf pv + 1).toNat)
    case atStart => exact ⟨0, by omega, rfl, rfl, HH, hb1, hsz⟩
    case round =>
      clear HH hb1
      obtain ⟨p, hp2, rfl, rfl, H4, hbr, hB⟩ := hrel
      by_cases hlt : p < 2
      · have hge : (0 : Int) ≤ 1 - (p : Int) := by omega
        obtain ⟨wo, rfl⟩ : ∃ wo : World, wo = wr := ⟨_, rfl⟩
        go_wp2
        go_loopw [7, 5] (fun rv nv wr => ∃ r : Nat, r ≤ 4 ∧ rv = .int .i64 r ∧ SKRel w u w1.heap.size (4 * p + r) nv wr) (fun rv _ _ => 4 - (intOf rv).toNat)
        case atStart => exact ⟨0, by omega, rfl, rfl, H4, hbr, hB⟩
        case round =>
          clear H4 hbr
          obtain ⟨r, hr, rfl, rfl, H5, hb5, _⟩ := hrel
          by_cases hlt4 : r < 4
          · have hlen := packSt_len u (4 * p + r)
            have hcell : wr.cell? ⟨w1.heap.size, r, none⟩ = some (.int .i64 (nm (packSt u (4 * p + r)).2 (r : Int))) := by rw [cell_of_heap H5.out, row4_get _ hlt4]
            have hfree := free_of_heap H5.out r
            have HS := Lib.hid (show packSt u (4 * p + r + 1) = if (u >>> r) % 2 = 1 - p then ((packSt u (4 * p + r)).1 + 1, (packSt u (4 * p + r)).2.set r ((packSt u (4 * p + r)).1 : Int)) else packSt u (4 * p + r) by
              have e1 : (4 * p + r) % 4 = r := by omega
              have e2 : (4 * p + r) / 4 = p := by omega
              simp only [packSt, e1, e2])
            have HL := Lib.hid hlen.1
            have hn := hlen.2
            generalize packSt u (4 * p + r) = s at *
            obtain ⟨n, t⟩ := s
            simp only at *
            clear hlen
            have hsc := shr_cast u r
            have htb := pass_bit u r p
            by_cases hbit : (u >>> r) % 2 = 1 - p
            · have hb1 : (((u : Int) / 2 ^ r).tmod 2 == 1 - (p : Int)) = true := htb.1 hlt hbit
              have HB := Lib.hid hbit
              clear hsc hbit htb
              go_wp2
              go_roundw
              case rel =>
                have hs := HS.out
                rw [if_pos HB.out] at hs
                refine ⟨r + 1, by omega, by go_num, by rw [← Nat.add_assoc, hs]; go_num, ?_, hb5.setCell hB _, hB⟩
                show _ = _
                rw [heap_set_same H5.out, row4_set HL.out hlt4, ← Nat.add_assoc, hs]
              case measure => simp [intOf]; omega
            · have hb1 : (((u : Int) / 2 ^ r).tmod 2 == 1 - (p : Int)) = false := htb.2 hlt hbit
              have HB := Lib.hid hbit
              clear hsc hbit htb
              go_wp2
              go_roundw
              case rel =>
                have hs := HS.out
                rw [if_neg HB.out] at hs
                exact ⟨r + 1, by omega, by go_num, by rw [← Nat.add_assoc, hs], by show _ = _; rw [← Nat.add_assoc, hs]; exact H5.out, hb5, hB⟩
              case measure => simp [intOf]; omega
          · obtain rfl : r = 4 := by omega
            go_wp2
            go_roundw
            case rel => exact ⟨p + 1, by omega, by (congr 1; omega), rfl, H5, hb5, hB⟩
            case measure => simp [intOf]; omega
      · obtain rfl : p = 2 := by omega
        have hlen := packSt_len u (4 * 2)
        go_wp2_with fail
        refine (ren_row4 A c l (packSt u (4 * 2)).2 hlen.1 H4.out ((hA.below hbr).more hbr.size) hl).mono ?_
        intro e w2 h
        obtain ⟨A2, c2, rfl, ho, hb2⟩ := h.mono hbr
        go_wp2
        go_ret
        rw [← HR.out]
        exact ⟨A2, c2, rfl, ho, hb2⟩
  | false =>
    have HR := Lib.hid (show packL l = [] by simp [packL, hp])
    have HQ := Lib.hid (show ∀ t, renameL l t = [] by intro t; simp [renameL, hp])
    have hru : regsUsedI l = -1 := by simp [regsUsedI, hp]
    clear hp
    go_enter Tryz.func58, Tryz.ntmps58
    go_wp2_with fail
    refine (sRegsUsed_c A c l w hA hl).mono ?_
    rintro e w1 ⟨rfl, hb⟩
    rw [hru]
    clear hru
    have hb1 := hb.alloc hb.size (.cells #[.int .i64 0, .int .i64 0, .int .i64 0, .int .i64 0] 3)
    have hsz := hb.size
    go_wp2
    clear hmk'
    have HH : Hid ((w1.alloc (.cells #[.int .i64 0, .int .i64 0, .int .i64 0, .int .i64 0] 3)).heap[w1.heap.size]? = some (.cells (row4 [0, 0, 0, 0]) 3 (0, 0))) := heap_alloc_new w1 _
    go_loopw [6, 5] (fun pv nv wr => ∃ p : Nat, p ≤ 2 ∧ pv = .int .i64 (1 - (p : Int)) ∧ SKRel0 w w1.heap.size (4 * p) nv wr) (fun pv _ _ => (intOf pv + 1).toNat)
    case atStart => exact ⟨0, by omega, rfl, 0, [0, 0, 0, 0], rfl, Nat.le_refl _, rfl, HH, hb1, hsz⟩
    case round =>
      clear HH hb1
      obtain ⟨p, hp2, rfl, n, t, rfl, hn, HL, H4, hbr, hB⟩ := hrel
      by_cases hlt : p < 2
      · have hge : (0 : Int) ≤ 1 - (p : Int) := by omega
        obtain ⟨wo, rfl⟩ : ∃ wo : World, wo = wr := ⟨_, rfl⟩
        go_wp2
        go_loopw [7, 5] (fun rv nv wr => ∃ r : Nat, r ≤ 4 ∧ rv = .int .i64 r ∧ SKRel0 w w1.heap.size (4 * p + r) nv wr) (fun rv _ _ => 4 - (intOf rv).toNat)
        case atStart => exact ⟨0, by omega, rfl, n, t, rfl, hn, HL, H4, hbr, hB⟩
        case round =>
          clear H4 hbr HL hn
          obtain ⟨r, hr, rfl, n, t, rfl, hn, HL, H5, hb5, _⟩ := hrel
          by_cases hlt4 : r < 4
          · have hcell : wr.cell? ⟨w1.heap.size, r, none⟩ = some (.int .i64 (nm t (r : Int))) := by rw [cell_of_heap H5.out, row4_get _ hlt4]
            have hfree := free_of_heap H5.out r
            go_wp2
            all_goals go_roundw
            case rel =>
              refine ⟨r + 1, by omega, by go_num, n + 1, t.set r n, by go_num, by omega, by show _ = _; rw [List.length_set]; exact HL.out, ?_, hb5.setCell hB _, hB⟩
              show _ = _
              rw [heap_set_same H5.out, row4_set HL.out hlt4]
            case measure => simp [intOf]; omega
            case rel => exact ⟨r + 1, by omega, by go_num, n, t, rfl, by omega, HL, H5, hb5, hB⟩
            case measure => simp [intOf]; omega
          · obtain rfl : r = 4 := by omega
            go_wp2
            go_roundw
            case rel => exact ⟨p + 1, by omega, by (congr 1; omega), n, t, rfl, hn, HL, H5, hb5, hB⟩
            case measure => simp [intOf]; omega
      · obtain rfl : p = 2 := by omega
        go_wp2_with fail
        refine (ren_row4 A c l t HL.out H4.out ((hA.below hbr).more hbr.size) hl).mono ?_
        intro e w2 h
        obtain ⟨A2, c2, rfl, ho, hb2⟩ := h.mono hbr
        go_wp2
        go_ret
        have ho' := ho
        have hq := HQ.out t
        rw [HR.out]
        rw [hq] at ho
        exact ⟨A2, c2, by rw [hq]; rfl, ho, hb2⟩

end Go.Proofs.YtakeacndmnnbmaaGreat
