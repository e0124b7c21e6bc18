/- Masks of lists, names of the registers of one instruction. -/
import Derived.Test.YtoiihjbdcjllbaaSyn
import Derived.Test.YtoiihjbdcjllbaaReads
import Derived.Test.YtoiihjbdcjllbaaBits
import Derived.Laws.Cover3
import Derived.Deep.MidRow
namespace Go.Proofs.Ytoiihjbdcjllbaa
open Go.RowKit
set_option linter.unusedVariables false
set_option linter.unusedSimpArgs false

theorem RdI.at1 {w : World} {B : Nat} {A : Option Addr} {xs : List Int} (h : RdI w B A xs) {k : Nat} (hk : k < xs.length) :
    ∃ b off, A = some ⟨b, off, none⟩ ∧ b < B ∧ ∀ j x, xs[j]? = some x → w.cell? ⟨b, off + j, none⟩ = some (.int .i64 x) := by
  obtain ⟨b, off, e, hb, hc⟩ := h.2 (by omega)
  exact ⟨b, off, e, hb, fun j x hx => hc j _ (by simp [hx])⟩

theorem nm_get {t : List Int} (ht : t.length = 4) {a : Nat} (ha : a ≤ 3) : t[a]? = some (nm t a) := by
  have : a < t.length := by omega
  simp [nm, List.getD_eq_getElem?_getD, List.getElem?_eq_getElem this]

def arr4 (t : List Int) : Value := .agg #[.int .i64 (nm t 0), .int .i64 (nm t 1), .int .i64 (nm t 2), .int .i64 (nm t 3)]

theorem map_take_snoc {α β : Type} (f : α → β) {l : List α} {k : Nat} {x : α} (h : l[k]? = some x) : (l.take (k + 1)).map f = (l.take k).map f ++ [f x] := by
  obtain ⟨hk, rfl⟩ := List.getElem?_eq_some_iff.1 h
  rw [List.take_succ_eq_append_getElem hk, List.map_append]
  rfl

/-- Four cells of a row of instructions are written. -/
theorem row_set {l m : List Cd} {zr : List Value} {k : Nat} {y : Cd} (hx : m[k]? = some y) (hlen : m.length = l.length) (hz : zr.length = l.length * 4) (hk : k < l.length) :
    (((((cdsCells m).take (k * 4) ++ zr.drop (k * 4)).set (k * 4) (.int .i64 y.op)).set (k * 4 + 1) (.int .i64 y.a)).set (k * 4 + 2) (.int .i64 y.b)).set (k * 4 + 3) (.int .i64 y.c) = (cdsCells m).take ((k + 1) * 4) ++ zr.drop ((k + 1) * 4) := by
  have hcl := cdsCells_length m
  have e0 : (cdsCells m)[k * 4]? = some (.int .i64 y.op) := cdsCells_get m k y hx 0 (by omega)
  have e1 : (cdsCells m)[k * 4 + 1]? = some (.int .i64 y.a) := cdsCells_get m k y hx 1 (by omega)
  have e2 : (cdsCells m)[k * 4 + 2]? = some (.int .i64 y.b) := cdsCells_get m k y hx 2 (by omega)
  have e3 : (cdsCells m)[k * 4 + 3]? = some (.int .i64 y.c) := cdsCells_get m k y hx 3 (by omega)
  rw [take_set_drop _ zr _ _ e0 (by omega), take_set_drop _ zr _ _ e1 (by omega), take_set_drop _ zr _ _ e2 (by omega), take_set_drop _ zr _ _ e3 (by omega), show (k + 1) * 4 = k * 4 + 3 + 1 from by omega]

set_option maxRecDepth 100000 in
set_option maxHeartbeats 8000000 in
theorem renamed_c (A : Option Addr) (c : Nat) (l : List Cd) (t : List Int) (w : World) (hA : RdC w w.heap.size A l) (hl : l.length ≤ 1000000000) (hv : ∀ x ∈ l, cvOk x = true) :
    Calls Try.prog 52 #[.slice A l.length c, arr4 t] w (RetC w (l.map (ren (nm t)))) := by
  have hmk := make_code l.length (by omega)
  unfold arr4
  go_enter Try.func52, Try.ntmps52
  go_wp2
  have hz := zeroRow_size (.agg #[.int .i64 0, .int .i64 0, .int .i64 0, .int .i64 0]) (l.length * 4)
  have ho := OR.lit (w.alloc (.cells #[.int .i64 (nm t 0), .int .i64 (nm t 1), .int .i64 (nm t 2), .int .i64 (nm t 3)] 80)) w.heap.size 32 4 l.length _ (by simp) (by omega) hz
  have hT : ∀ j : Nat, j ≤ 3 → ((w.alloc (.cells #[.int .i64 (nm t 0), .int .i64 (nm t 1), .int .i64 (nm t 2), .int .i64 (nm t 3)] 80)).alloc (.cells (zeroRow (.agg #[.int .i64 0, .int .i64 0, .int .i64 0, .int .i64 0]) (l.length * 4)) 32)).cell? ⟨w.heap.size, j, none⟩ = some (.int .i64 (nm t (j : Int))) := by
    intro j hj
    have : j = 0 ∨ j = 1 ∨ j = 2 ∨ j = 3 := by omega
    rcases this with rfl | rfl | rfl | rfl <;> simp [go_sem]
  generalize zeroRow (.agg #[.int .i64 0, .int .i64 0, .int .i64 0, .int .i64 0]) (l.length * 4) = zr at *
  have hzl : zr.toList.length = l.length * 4 := by simpa using hz
  have HZ := Lib.hid hzl
  clear hmk hz hzl
  go_loopw [14] (fun i wr => ∃ k : Nat, k ≤ l.length ∧ i = .int .i64 k ∧ OR wr w.heap.size 32 4 (some ⟨w.heap.size + 1, 0, none⟩) l.length l.length ((cdsCells (l.map (ren (nm t)))).take (k * 4) ++ zr.toList.drop (k * 4)) ∧
    Hid (∀ j : Nat, j ≤ 3 → wr.cell? ⟨w.heap.size, j, none⟩ = some (.int .i64 (nm t (j : Int)))) ∧ Below w.heap.size w wr ∧ w.heap.size + 2 ≤ wr.heap.size) (fun i _ => l.length - (intOf i).toNat)
  case atStart => exact ⟨0, Nat.zero_le _, rfl, by simpa using ho, hT, (by repeat (first | exact Below.refl _ _ | assumption | refine Below.alloc ?_ (by simp <;> omega) _ | refine Below.setCell ?_ (by simp <;> omega) _ | refine Below.drew ?_)), by simp⟩
  case round =>
    clear ho hT
    obtain ⟨k, hk, rfl, ho, HT, hb, hsz2⟩ := hrel
    by_cases hlt : k < l.length
    · obtain ⟨b, off, x, rfl, hbB, hx, c0, c1, c2, c3⟩ := (hA.below hb).at_ hlt
      have hvx := hv x (List.mem_of_getElem? hx)
      have hM : (l.map (ren (nm t)))[k]? = some (ren (nm t) x) := by rw [List.getElem?_map, hx]; rfl
      have HM := Lib.hid hM
      have hsz := hb.size
      have ha := cvOk_a hvx
      have hbb := cvOk_b hvx
      have hcc := cvOk_c hvx
      have hb2 := cvOk_b2 hvx
      have hop := op14 hvx
      obtain ⟨xa, hxa⟩ := Int.eq_ofNat_of_zero_le ha.1
      obtain ⟨xb, hxb⟩ := Int.eq_ofNat_of_zero_le hbb.1
      obtain ⟨xc, hxc⟩ := Int.eq_ofNat_of_zero_le hcc.1
      obtain ⟨o, xa', xb', xc'⟩ := x
      simp only at ha hbb hcc hb2 hxa hxb hxc hop c0 c1 c2 c3
      subst hxa hxb hxc
      have t0 := HT.out xa (by omega)
      have t2 := HT.out xc (by omega)
      have lt0 : xa < 4 := by omega
      have lt2 : xc < 4 := by omega
      have HX := Lib.hid hx
      clear hx hM hvx
      obtain ⟨u0, hu0⟩ := ho.some_cell (k * 4) (by omega)
      obtain ⟨u1, hu1⟩ := ho.some_cell (k * 4 + 1) (by omega)
      obtain ⟨u2, hu2⟩ := ho.some_cell (k * 4 + 2) (by omega)
      obtain ⟨u3, hu3⟩ := ho.some_cell (k * 4 + 3) (by omega)
      have hf0 := ho.at0.2.1 (k * 4)
      have hf1 := ho.at0.2.1 (k * 4 + 1)
      have hf2 := ho.at0.2.1 (k * 4 + 2)
      have hf3 := ho.at0.2.1 (k * 4 + 3)
      have hne1 : ¬ w.heap.size + 1 = wr.heap.size := by omega
      have hne2 : ¬ w.heap.size = wr.heap.size := by omega
      have hlt1 : w.heap.size + 1 < wr.heap.size := by omega
      have hlt2 : w.heap.size < wr.heap.size := by omega
      have hR : regsN o = 0 ∨ regsN o = 1 ∨ (regsN o = 2 ∧ xb ≤ 3) ∨ (regsN o = 3 ∧ xb ≤ 3) := by
        rcases hop with h | h | h | h | h | h | h | h | h | h | h | h | h | h <;> subst h
        · exact .inr (.inl rfl)
        · exact .inr (.inl rfl)
        · exact .inr (.inr (.inl ⟨rfl, by have := hb2 (by omega); omega⟩))
        · exact .inr (.inr (.inl ⟨rfl, by have := hb2 (by omega); omega⟩))
        · exact .inr (.inr (.inl ⟨rfl, by have := hb2 (by omega); omega⟩))
        · exact .inr (.inr (.inr ⟨rfl, by have := hb2 (by omega); omega⟩))
        · exact .inr (.inr (.inr ⟨rfl, by have := hb2 (by omega); omega⟩))
        · exact .inr (.inr (.inl ⟨rfl, by have := hb2 (by omega); omega⟩))
        · exact .inr (.inr (.inl ⟨rfl, by have := hb2 (by omega); omega⟩))
        · exact .inl rfl
        · exact .inr (.inl rfl)
        · exact .inl rfl
        · exact .inr (.inl rfl)
        · exact .inl rfl
      clear hb2 hop
      rcases hR with hR | hR | ⟨hR, lb⟩ | ⟨hR, lb⟩
      all_goals
        try have lt1 : xb < 4 := by omega
        try have t1 := HT.out xb lb
        have HRR := Lib.hid hR
        go_wp2_with (go_at_call 70; refine (registers_c _ _).mono ?_; rintro e w' ⟨rfl, rfl⟩)
        go_roundw
        case rel =>
          refine ⟨k + 1, by omega, by go_num, ?_, ?_, ?_, ?_⟩
          · have h1 := row_set HM.out (by simp) HZ.out hlt
            have h2 := (((((ho.at0.2.2 (k * 4) (.int .i64 (ren (nm t) ⟨o, xa, xb, xc⟩).op)).at0.2.2 (k * 4 + 1) (.int .i64 (ren (nm t) ⟨o, xa, xb, xc⟩).a))).at0.2.2 (k * 4 + 2) (.int .i64 (ren (nm t) ⟨o, xa, xb, xc⟩).b))).at0.2.2 (k * 4 + 3) (.int .i64 (ren (nm t) ⟨o, xa, xb, xc⟩).c)
            rw [h1] at h2
            simp only [ren, HRR.out] at h2
            exact OR.alloc h2 _
          · intro j hj
            have := HT.out j hj
            simp [go_sem, this, hlt2]
          · exact ((((hb.setCell (by simp) _).setCell (by simp) _).setCell (by simp) _).setCell (by simp) _).alloc (by simpa [size_set] using hsz) _
          · simp; omega
        case measure => simp [intOf]; omega
    · obtain rfl : k = l.length := by omega
      go_wp2
      go_ret
      refine RetC.of ?_ hb
      rw [List.take_of_length_le (by rw [cdsCells_length, List.length_map]; omega), List.drop_of_length_le (by rw [HZ.out]; omega), List.append_nil] at ho
      exact ho

theorem orBits_lt4 {xs : List Int} (h : allIn xs 4 = true) : orBits xs < 256 := orBits_lt (by decide) h

def IRRel (t : List Int) (iv mv : Value) : Prop :=
  ∃ k : Nat, k ≤ t.length ∧ iv = .int .i64 k ∧ mv = .int .i64 (orBits (t.take k)) ∧ allIn (t.take k) 4 = true

theorem nameOk_len {t : List Int} (h : t.length ≠ 4) : nameOk t = false := by simp [nameOk, h]
theorem nameOk_bad {t : List Int} (h : allIn t 4 = false) : nameOk t = false := by
  have : maskOfI t 4 = -1 := by simp [maskOfI, h]
  simp [nameOk, this]
theorem nameOk_mask {t : List Int} (hl : t.length = 4) (h : allIn t 4 = true) : nameOk t = (((orBits t : Nat) : Int) == 15) := by
  have e : inR 4 1 8 = true := rfl
  simp [nameOk, maskOfI, h, hl, e]

theorem arr4_of {t : List Int} (h : t.length = 4) : ∀ j : Nat, j < 4 → t[j]? = some (nm t (j : Int)) := fun j hj => nm_get h (by omega)

def SNRel (w : World) (l : List Cd) (t : List Int) (ov iv : Value) (wr : World) : Prop :=
  ∃ (k : Nat) (A : Option Addr) (n c : Nat), k ≤ l.length ∧ iv = .int .i64 k ∧ ov = .slice A n c ∧ OC wr w.heap.size A n c ((l.take k).map (ren (nm t))) ∧ n = k ∧ Below w.heap.size w wr

theorem OI4 (w : World) (B : Nat) (a b c d : Int) (hB : B ≤ w.heap.size) : OI (w.alloc (.cells #[.int .i64 a, .int .i64 b, .int .i64 c, .int .i64 d] 3)) B (some ⟨w.heap.size, 0, none⟩) 4 4 [a, b, c, d] :=
  (OR.lit w w.heap.size _ 1 4 #[.int .i64 a, .int .i64 b, .int .i64 c, .int .i64 d] (Nat.le_refl _) (by omega) rfl).mono hB

theorem OC.empty2 (w : World) (o : Obj) : OC ((w.alloc o).alloc (.cells #[] 32)) w.heap.size (some ⟨w.heap.size + 1, 0, none⟩) 0 0 [] := by
  have := OC.empty_ (w.alloc o) w.heap.size (by simp)
  simpa using this
theorem call_renamed (p q r s : Int) (A : Option Addr) (c : Nat) (l : List Cd) (w : World) (hA : RdC w w.heap.size A l) (hl : l.length ≤ 1000000000) (hv : ∀ x ∈ l, cvOk x = true) :
    Calls Try.prog 52 #[.slice A l.length c, .agg #[.int .i64 p, .int .i64 q, .int .i64 r, .int .i64 s]] (w.alloc (.cells #[.int .i64 p, .int .i64 q, .int .i64 r, .int .i64 s] 80)) (RetC w (l.map (ren (nm [p, q, r, s])))) := by
  have hb : Below w.heap.size w (w.alloc (.cells #[.int .i64 p, .int .i64 q, .int .i64 r, .int .i64 s] 80)) := (Below.refl _ _).alloc (Nat.le_refl _) _
  refine (renamed_c A c l [p, q, r, s] _ ((hA.below hb).more hb.size) hl hv).mono ?_
  intro e w' h
  exact h.mono hb

set_option maxRecDepth 100000 in
set_option maxHeartbeats 8000000 in
theorem iSwapRegs_c (A : Option Addr) (c : Nat) (l : List Cd) (a b : Int) (w : World) (hA : RdC w w.heap.size A l) (hl : l.length ≤ 1000000000) :
    Calls Try.prog 27 #[.slice A l.length c, .int .i64 a, .int .i64 b] w (RetC w (swapL l a b)) := by
  cases hp : pv l with
  | false =>
    have HR := Lib.hid (show swapL l a b = [] by simp [swapL, hp])
    go_enter Try.func27, Try.ntmps27
    go_wp2_with fail
    refine (iProgramValid_c A c l w hA hl).mono ?_
    rintro e w1 ⟨rfl, hb⟩
    go_wp2
    go_ret
    rw [HR.out]
    exact RetC.of (OC.nil_ _ _) hb
  | true =>
    have HV := Lib.hid (pv_all hp)
    cases h : (inR a 0 3 && inR b 0 3) with
    | false =>
      have HR := Lib.hid (show swapL l a b = [] by simp [swapL, h])
      have h2 : inR a 0 3 = false ∨ (inR a 0 3 = true ∧ inR b 0 3 = false) := by
        cases ha : inR a 0 3 with
        | false => exact .inl rfl
        | true => rw [ha, Bool.true_and] at h; exact .inr ⟨rfl, h⟩
      clear h
      rcases h2 with h2 | ⟨h2, h3⟩
      all_goals
        go_enter Try.func27, Try.ntmps27
        go_wp2_with fail
        refine (iProgramValid_c A c l w hA hl).mono ?_
        rintro e w1 ⟨rfl, hb⟩
        go_wp2_with (go_at_call 51; refine (isReg_c _ _).mono ?_; rintro e w' ⟨rfl, rfl⟩)
        go_ret
        rw [HR.out]
        exact RetC.of (OC.nil_ _ _) hb
    | true =>
      have HR := Lib.hid (show l.map (ren (nm (swapTo a b))) = swapL l a b by simp [swapL, hp, h])
      simp only [Bool.and_eq_true, inR_iff] at h
      obtain ⟨ha, hb⟩ := h
      have h1 : a = 0 ∨ a = 1 ∨ a = 2 ∨ a = 3 := by omega
      have h2 : b = 0 ∨ b = 1 ∨ b = 2 ∨ b = 3 := by omega
      clear ha hb
      rcases h1 with rfl | rfl | rfl | rfl <;> rcases h2 with rfl | rfl | rfl | rfl
      all_goals
        go_enter Try.func27, Try.ntmps27
        go_wp2_with fail
        refine (iProgramValid_c A c l w hA hl).mono ?_
        rintro e w1 ⟨rfl, hb⟩
        have hA1 := (hA.below hb).more hb.size
        go_wp2_with (go_at_call 51; refine (isReg_c _ _).mono ?_; rintro e w' ⟨rfl, rfl⟩)
        refine (call_renamed _ _ _ _ A c l w1 hA1 hl HV.out).mono ?_
        intro e w2 h
        obtain ⟨A2, c2, rfl, ho, hb2⟩ := h.mono hb
        go_wp2
        go_ret
        rw [← HR.out]
        exact ⟨A2, c2, by simp only [List.length_map]; rfl, ho, hb2⟩

def row4 (t : List Int) : Array Value := #[.int .i64 (nm t 0), .int .i64 (nm t 1), .int .i64 (nm t 2), .int .i64 (nm t 3)]
theorem row4_set {t : List Int} (ht : t.length = 4) {r : Nat} (hr : r < 4) (v : Int) : (row4 t).setIfInBounds r (.int .i64 v) = row4 (t.set r v) := by
  match t, ht with
  | [a, b, c, d], _ =>
    have : r = 0 ∨ r = 1 ∨ r = 2 ∨ r = 3 := by omega
    rcases this with rfl | rfl | rfl | rfl <;> rfl
theorem row4_get (t : List Int) {r : Nat} (hr : r < 4) : (row4 t)[r]? = some (.int .i64 (nm t (r : Int))) := by
  have : r = 0 ∨ r = 1 ∨ r = 2 ∨ r = 3 := by omega
  rcases this with rfl | rfl | rfl | rfl <;> rfl
theorem packSt_len (u : Nat) : ∀ i, (packSt u i).2.length = 4 ∧ (packSt u i).1 ≤ i
  | 0 => ⟨rfl, Nat.le_refl _⟩
  | i + 1 => by
    have h := packSt_len u i
    unfold packSt
    dsimp only
    split
    · exact ⟨by simp [h.1], by simp; omega⟩
    · exact ⟨h.1, by omega⟩
theorem packSi_len (u : Nat) : ∀ i, (packSi u i).2.length = 4 ∧ (packSi u i).1 ≤ i
  | 0 => ⟨rfl, Nat.le_refl _⟩
  | i + 1 => by
    have h := packSi_len u i
    unfold packSi
    dsimp only
    split
    · exact ⟨by simp [h.1], by simp; omega⟩
    · exact ⟨h.1, by omega⟩

def PIRel (w : World) (u B : Nat) (iv nv : Value) (wr : World) : Prop :=
  ∃ r : Nat, r ≤ 4 ∧ iv = .int .i64 r ∧ nv = .int .i64 ((packSi u r).1 : Nat) ∧ Hid (wr.heap[B]? = some (.cells (row4 (packSi u r).2) 80 (0, 0))) ∧ Below w.heap.size w wr

theorem pass_bit (u r p : Nat) : (p < 2 → (u >>> r) % 2 = 1 - p → (((u : Int) / 2 ^ r).tmod 2 == 1 - (p : Int)) = true) ∧ (p < 2 → ¬ (u >>> r) % 2 = 1 - p → (((u : Int) / 2 ^ r).tmod 2 == 1 - (p : Int)) = false) := by
  rw [shr_cast]
  generalize u >>> r = m
  rw [Int.tmod_eq_emod_of_nonneg (by omega)]
  refine ⟨fun hp h => ?_, fun hp h => ?_⟩
  · rw [beq_iff_eq]; omega
  · rw [beq_eq_false_iff_ne]; omega

def SKRel0 (w : World) (B : Nat) (i : Nat) (nv : Value) (wr : World) : Prop :=
  ∃ (n : Nat) (t : List Int), nv = .int .i64 n ∧ n ≤ i ∧ Hid (t.length = 4) ∧ Hid (wr.heap[B]? = some (.cells (row4 t) 3 (0, 0))) ∧ Below w.heap.size w wr ∧ w.heap.size ≤ B

def SKRel (w : World) (u B : Nat) (i : Nat) (nv : Value) (wr : World) : Prop :=
  nv = .int .i64 ((packSt u i).1 : Nat) ∧ Hid (wr.heap[B]? = some (.cells (row4 (packSt u i).2) 3 (0, 0))) ∧ Below w.heap.size w wr ∧ w.heap.size ≤ B

end Go.Proofs.Ytoiihjbdcjllbaa
