/- RenameRegs and SwapRegs of both packages. -/
import Derived.Test.YtcpjhlkcfohkiaaNames1
namespace Go.Proofs.Ytcpjhlkcfohkiaa
open Go.RowKit
set_option linter.unusedVariables false
set_option linter.unusedSimpArgs false

def arr4 (t : List Int) : Value := .agg #[.int .i64 (nm t 0), .int .i64 (nm t 1), .int .i64 (nm t 2), .int .i64 (nm t 3)]

theorem map_take_snoc {α β : Type} (f : α → β) {l : List α} {k : Nat} {x : α} (h : l[k]? = some x) : (l.take (k + 1)).map f = (l.take k).map f ++ [f x] := by
  obtain ⟨hk, rfl⟩ := List.getElem?_eq_some_iff.1 h
  rw [List.take_succ_eq_append_getElem hk, List.map_append]
  rfl

/-- Four cells of a row of instructions are written. -/
theorem row_set {l m : List Cd} {zr : List Value} {k : Nat} {y : Cd} (hx : m[k]? = some y) (hlen : m.length = l.length) (hz : zr.length = l.length * 4) (hk : k < l.length) :
    (((((cdsCells m).take (k * 4) ++ zr.drop (k * 4)).set (k * 4) (.int .i64 y.op)).set (k * 4 + 1) (.int .i64 y.a)).set (k * 4 + 2) (.int .i64 y.b)).set (k * 4 + 3) (.int .i64 y.c) = (cdsCells m).take ((k + 1) * 4) ++ zr.drop ((k + 1) * 4) := by
  have hcl := cdsCells_length m
  have e0 : (cdsCells m)[k * 4]? = some (.int .i64 y.op) := cdsCells_get m k y hx 0 (by omega)
  have e1 : (cdsCells m)[k * 4 + 1]? = some (.int .i64 y.a) := cdsCells_get m k y hx 1 (by omega)
  have e2 : (cdsCells m)[k * 4 + 2]? = some (.int .i64 y.b) := cdsCells_get m k y hx 2 (by omega)
  have e3 : (cdsCells m)[k * 4 + 3]? = some (.int .i64 y.c) := cdsCells_get m k y hx 3 (by omega)
  rw [take_set_drop _ zr _ _ e0 (by omega), take_set_drop _ zr _ _ e1 (by omega), take_set_drop _ zr _ _ e2 (by omega), take_set_drop _ zr _ _ e3 (by omega), show (k + 1) * 4 = k * 4 + 3 + 1 from by omega]

set_option maxRecDepth 100000 in
set_option maxHeartbeats 8000000 in
theorem renamed_c (A : Option Addr) (c : Nat) (l : List Cd) (t : List Int) (w : World) (hA : RdC w w.heap.size A l) (hl : l.length ≤ 1000000000) (hv : ∀ x ∈ l, cvOk x = true) :
    Calls Try.prog 85 #[.slice A l.length c, arr4 t] w (RetC w (l.map (ren (nm t)))) := by
  have hmk := make_code l.length (by omega)
  unfold arr4
  go_enter Try.func85, Try.ntmps85
  go_wp2
  have hz := zeroRow_size (.agg #[.int .i64 0, .int .i64 0, .int .i64 0, .int .i64 0]) (l.length * 4)
  have ho := OR.lit (w.alloc (.cells #[.int .i64 (nm t 0), .int .i64 (nm t 1), .int .i64 (nm t 2), .int .i64 (nm t 3)] 83)) w.heap.size 45 4 l.length _ (by simp) (by omega) hz
  have hT : ∀ j : Nat, j ≤ 3 → ((w.alloc (.cells #[.int .i64 (nm t 0), .int .i64 (nm t 1), .int .i64 (nm t 2), .int .i64 (nm t 3)] 83)).alloc (.cells (zeroRow (.agg #[.int .i64 0, .int .i64 0, .int .i64 0, .int .i64 0]) (l.length * 4)) 45)).cell? ⟨w.heap.size, j, none⟩ = some (.int .i64 (nm t (j : Int))) := by
    intro j hj
    have : j = 0 ∨ j = 1 ∨ j = 2 ∨ j = 3 := by omega
    rcases this with rfl | rfl | rfl | rfl <;> simp [go_sem]
  generalize zeroRow (.agg #[.int .i64 0, .int .i64 0, .int .i64 0, .int .i64 0]) (l.length * 4) = zr at *
  have hzl : zr.toList.length = l.length * 4 := by simpa using hz
  have HZ := Lib.hid hzl
  clear hmk hz hzl
  go_loopw [14] (fun i wr => ∃ k : Nat, k ≤ l.length ∧ i = .int .i64 k ∧ OR wr w.heap.size 45 4 (some ⟨w.heap.size + 1, 0, none⟩) l.length l.length ((cdsCells (l.map (ren (nm t)))).take (k * 4) ++ zr.toList.drop (k * 4)) ∧
    Hid (∀ j : Nat, j ≤ 3 → wr.cell? ⟨w.heap.size, j, none⟩ = some (.int .i64 (nm t (j : Int)))) ∧ Below w.heap.size w wr ∧ w.heap.size + 2 ≤ wr.heap.size) (fun i _ => l.length - (intOf i).toNat)
  case atStart => exact ⟨0, Nat.zero_le _, rfl, by simpa using ho, hT, (by repeat (first | exact Below.refl _ _ | assumption | refine Below.alloc ?_ (by simp <;> omega) _ | refine Below.setCell ?_ (by simp <;> omega) _ | refine Below.drew ?_)), by simp⟩
  case round =>
    clear ho hT
    obtain ⟨k, hk, rfl, ho, HT, hb, hsz2⟩ := hrel
    by_cases hlt : k < l.length
    · obtain ⟨b, off, x, rfl, hbB, hx, c0, c1, c2, c3⟩ := (hA.below hb).at_ hlt
      have hvx := hv x (List.mem_of_getElem? hx)
      have hM : (l.map (ren (nm t)))[k]? = some (ren (nm t) x) := by rw [List.getElem?_map, hx]; rfl
      have HM := Lib.hid hM
      have hsz := hb.size
      have ha := cvOk_a hvx
      have hbb := cvOk_b hvx
      have hcc := cvOk_c hvx
      have hb2 := cvOk_b2 hvx
      have hop := op14 hvx
      obtain ⟨xa, hxa⟩ := Int.eq_ofNat_of_zero_le ha.1
      obtain ⟨xb, hxb⟩ := Int.eq_ofNat_of_zero_le hbb.1
      obtain ⟨xc, hxc⟩ := Int.eq_ofNat_of_zero_le hcc.1
      obtain ⟨o, xa', xb', xc'⟩ := x
      simp only at ha hbb hcc hb2 hxa hxb hxc hop c0 c1 c2 c3
      subst hxa hxb hxc
      have t0 := HT.out xa (by omega)
      have t2 := HT.out xc (by omega)
      have lt0 : xa < 4 := by omega
      have lt2 : xc < 4 := by omega
      have HX := Lib.hid hx
      clear hx hM hvx
      obtain ⟨u0, hu0⟩ := ho.some_cell (k * 4) (by omega)
      obtain ⟨u1, hu1⟩ := ho.some_cell (k * 4 + 1) (by omega)
      obtain ⟨u2, hu2⟩ := ho.some_cell (k * 4 + 2) (by omega)
      obtain ⟨u3, hu3⟩ := ho.some_cell (k * 4 + 3) (by omega)
      have hf0 := ho.at0.2.1 (k * 4)
      have hf1 := ho.at0.2.1 (k * 4 + 1)
      have hf2 := ho.at0.2.1 (k * 4 + 2)
      have hf3 := ho.at0.2.1 (k * 4 + 3)
      have hne1 : ¬ w.heap.size + 1 = wr.heap.size := by omega
      have hne2 : ¬ w.heap.size = wr.heap.size := by omega
      have hlt1 : w.heap.size + 1 < wr.heap.size := by omega
      have hlt2 : w.heap.size < wr.heap.size := by omega
      have hR : regsN o = 0 ∨ regsN o = 1 ∨ (regsN o = 2 ∧ xb ≤ 3) ∨ (regsN o = 3 ∧ xb ≤ 3) := by
        rcases hop with h | h | h | h | h | h | h | h | h | h | h | h | h | h <;> subst h
        · exact .inr (.inl rfl)
        · exact .inr (.inl rfl)
        · exact .inr (.inr (.inl ⟨rfl, by have := hb2 (by omega); omega⟩))
        · exact .inr (.inr (.inl ⟨rfl, by have := hb2 (by omega); omega⟩))
        · exact .inr (.inr (.inl ⟨rfl, by have := hb2 (by omega); omega⟩))
        · exact .inr (.inr (.inr ⟨rfl, by have := hb2 (by omega); omega⟩))
        · exact .inr (.inr (.inr ⟨rfl, by have := hb2 (by omega); omega⟩))
        · exact .inr (.inr (.inl ⟨rfl, by have := hb2 (by omega); omega⟩))
        · exact .inr (.inr (.inl ⟨rfl, by have := hb2 (by omega); omega⟩))
        · exact .inl rfl
        · exact .inr (.inl rfl)
        · exact .inl rfl
        · exact .inr (.inl rfl)
        · exact .inl rfl
      clear hb2 hop
      rcases hR with hR | hR | ⟨hR, lb⟩ | ⟨hR, lb⟩
      all_goals
        try have lt1 : xb < 4 := by omega
        try have t1 := HT.out xb lb
        have HRR := Lib.hid hR
        go_wp2_with (go_at_call 109; refine (registers_c _ _).mono ?_; rintro e w' ⟨rfl, rfl⟩)
        go_roundw
        case rel =>
          refine ⟨k + 1, by omega, by go_num, ?_, ?_, ?_, ?_⟩
          · have h1 := row_set HM.out (by simp) HZ.out hlt
            have h2 := (((((ho.at0.2.2 (k * 4) (.int .i64 (ren (nm t) ⟨o, xa, xb, xc⟩).op)).at0.2.2 (k * 4 + 1) (.int .i64 (ren (nm t) ⟨o, xa, xb, xc⟩).a))).at0.2.2 (k * 4 + 2) (.int .i64 (ren (nm t) ⟨o, xa, xb, xc⟩).b))).at0.2.2 (k * 4 + 3) (.int .i64 (ren (nm t) ⟨o, xa, xb, xc⟩).c)
            rw [h1] at h2
            simp only [ren, HRR.out] at h2
            exact OR.alloc h2 _
          · intro j hj
            have := HT.out j hj
            simp [go_sem, this, hlt2]
          · exact ((((hb.setCell (by simp) _).setCell (by simp) _).setCell (by simp) _).setCell (by simp) _).alloc (by simpa [size_set] using hsz) _
          · simp; omega
        case measure => simp [intOf]; omega
    · obtain rfl : k = l.length := by omega
      go_wp2
      go_ret
      refine RetC.of ?_ hb
      rw [List.take_of_length_le (by rw [cdsCells_length, List.length_map]; omega), List.drop_of_length_le (by rw [HZ.out]; omega), List.append_nil] at ho
      exact ho
end Go.Proofs.Ytcpjhlkcfohkiaa
