/- Slices of accesses and of beats read; LockAccesses and LockTrace of the program; sameAccesses, sameBeats. -/
import Derived.Test.YtoiihjbdcjllbaaILock7
namespace Go.Proofs.Ytoiihjbdcjllbaa
open Go.RowKit
set_option linter.unusedVariables false
set_option linter.unusedSimpArgs false

/-- The slice at A reads as accesses. -/
def RdQ (w : World) (B : Nat) (A : Option Addr) (l : List Acc) : Prop := Reads w B 4 A l.length (accsV l)
/-- The slice at A reads as beats. -/
def RdT (w : World) (B : Nat) (A : Option Addr) (l : List (Nat × Nat)) : Prop := Reads w B 2 A l.length (beatsV l)
theorem accsV_get (l : List Acc) : ∀ (k : Nat) (q : Acc), l[k]? = some q → ∀ j, j < 4 → (accsV l)[k * 4 + j]? = ([.int .i64 q.who, .int .i64 q.cell, .bool q.wr, .int .i64 q.ph] : List Value)[j]? := by
  induction l with
  | nil => intro k q h; simp at h
  | cons y l ih =>
    intro k q h j hj
    cases k with
    | zero =>
      simp at h
      subst h
      simp only [accsV, List.flatMap_cons, Nat.zero_mul, Nat.zero_add]
      rw [List.getElem?_append_left (by simpa using hj)]
    | succ k =>
      simp only [List.getElem?_cons_succ] at h
      have := ih k q h j hj
      simp only [accsV, List.flatMap_cons] at this ⊢
      rw [List.getElem?_append_right (by simp; omega), ← this]
      congr 1
      simp; omega
theorem beatsV_len : ∀ l : List (Nat × Nat), (beatsV l).length = l.length * 2
  | [] => rfl
  | q :: l => by
    have := beatsV_len l
    simp only [beatsV, List.flatMap_cons, List.length_append, List.length_cons, List.length_nil] at this ⊢
    omega
theorem beatsV_at (l : List (Nat × Nat)) : ∀ (k : Nat) (q : Nat × Nat), l[k]? = some q → ∀ j, j < 2 → (beatsV l)[k * 2 + j]? = ([.int .i64 q.1, .int .i64 q.2] : List Value)[j]? := by
  induction l with
  | nil => intro k q h; simp at h
  | cons y l ih =>
    intro k q h j hj
    cases k with
    | zero =>
      simp at h
      subst h
      simp only [beatsV, List.flatMap_cons, Nat.zero_mul, Nat.zero_add]
      rw [List.getElem?_append_left (by simpa using hj)]
    | succ k =>
      simp only [List.getElem?_cons_succ] at h
      have := ih k q h j hj
      simp only [beatsV, List.flatMap_cons] at this ⊢
      rw [List.getElem?_append_right (by simp; omega), ← this]
      congr 1
      simp; omega
section
variable {w w' : World} {B B' : Nat} {A : Option Addr} {l : List Acc} {t : List (Nat × Nat)}
theorem RdQ.below (h : RdQ w B A l) (hb : Below B w w') : RdQ w' B A l := Reads.below h hb
theorem RdQ.more (h : RdQ w B A l) (hB : B ≤ B') : RdQ w B' A l := Reads.more h hB
theorem RdT.below (h : RdT w B A t) (hb : Below B w w') : RdT w' B A t := Reads.below h hb
theorem RdT.more (h : RdT w B A t) (hB : B ≤ B') : RdT w B' A t := Reads.more h hB
theorem RdQ.at_ (h : RdQ w B A l) {k : Nat} (hk : k < l.length) :
    ∃ b off q, A = some ⟨b, off, none⟩ ∧ b < B ∧ l[k]? = some q ∧
      w.cell? ⟨b, off + k * 4, none⟩ = some (.int .i64 q.who) ∧ w.cell? ⟨b, off + k * 4 + 1, none⟩ = some (.int .i64 q.cell) ∧
      w.cell? ⟨b, off + k * 4 + 2, none⟩ = some (.bool q.wr) ∧ w.cell? ⟨b, off + k * 4 + 3, none⟩ = some (.int .i64 q.ph) := by
  obtain ⟨b, off, e, hb, hc⟩ := h.2 (by omega)
  have hx : l[k]? = some l[k] := List.getElem?_eq_getElem hk
  have g := accsV_get l k _ hx
  exact ⟨b, off, l[k], e, hb, hx, hc (k * 4) _ (g 0 (by omega)), hc (k * 4 + 1) _ (g 1 (by omega)), hc (k * 4 + 2) _ (g 2 (by omega)), hc (k * 4 + 3) _ (g 3 (by omega))⟩
theorem RdT.at_ (h : RdT w B A t) {k : Nat} (hk : k < t.length) :
    ∃ b off q, A = some ⟨b, off, none⟩ ∧ b < B ∧ t[k]? = some q ∧ w.cell? ⟨b, off + k * 2, none⟩ = some (.int .i64 q.1) ∧ w.cell? ⟨b, off + k * 2 + 1, none⟩ = some (.int .i64 q.2) := by
  obtain ⟨b, off, e, hb, hc⟩ := h.2 (by omega)
  have hx : t[k]? = some t[k] := List.getElem?_eq_getElem hk
  have g := beatsV_at t k _ hx
  exact ⟨b, off, t[k], e, hb, hx, hc (k * 2) _ (g 0 (by omega)), hc (k * 2 + 1) _ (g 1 (by omega))⟩
end
noncomputable def accsOf (l : List Cd) (n : Int) (m : List Int) : List Acc := if lockOk l n m then (lockS l n.toNat m).accs else []

theorem iLockTraceT_c (A Am : Option Addr) (ca cm : Nat) (l : List Cd) (n : Int) (m : List Int) (w : World) (hA : RdC w w.heap.size A l) (hM : RdI w w.heap.size Am m) (hl : l.length ≤ 1000000000) (hml : m.length ≤ 1000000000) :
    Calls Try.prog 29 #[.slice A l.length ca, .int .i64 n, .slice Am m.length cm] w fun e w' => ∃ (T : Option Addr) (tc : Nat), e = .returned (.slice T (traceOf l n m).length tc) ∧ RdT w' w'.heap.size T (traceOf l n m) ∧ Below w.heap.size w w' := by
  have HT1 := Lib.hid (fun h : lockOk l n m = true => show traceOf l n m = (lockS l n.toNat m).beats by simp [traceOf, h])
  have HT2 := Lib.hid (fun h : lockOk l n m = false => show traceOf l n m = [] by simp [traceOf, h])
  generalize traceOf l n m = tr at *
  go_enter Try.func29, Try.ntmps29
  go_wp2_with fail
  refine (runLock_c A Am ca cm l n m w hA hM hl hml).mono ?_
  rintro e w1 (⟨hok, hr⟩ | ⟨hok, rfl, hb1⟩)
  · obtain ⟨z, T, tc, U, uc, rfl, hzB, hzl, hzn, hS, hb1⟩ := hr
    obtain ⟨c0, c1, c2, c3, c4, c5, c6⟩ := hS.cells
    have HK := Lib.hid (HT1.out hok)
    have HR := Lib.hid (OR.reads hS.trc)
    clear hok hS hzn hzB hzl HT1 HT2
    go_wp2
    go_ret
    rw [HK.out]
    exact ⟨T, tc, rfl, HR.out, hb1⟩
  · have HK := Lib.hid (HT2.out hok)
    clear hok
    go_wp2
    go_ret
    rw [HK.out]
    exact ⟨none, 0, rfl, Reads.none_, hb1⟩

theorem iLockAccesses_c (A Am : Option Addr) (ca cm : Nat) (l : List Cd) (n : Int) (m : List Int) (w : World) (hA : RdC w w.heap.size A l) (hM : RdI w w.heap.size Am m) (hl : l.length ≤ 1000000000) (hml : m.length ≤ 1000000000) :
    Calls Try.prog 24 #[.slice A l.length ca, .int .i64 n, .slice Am m.length cm] w fun e w' => ∃ (U : Option Addr) (uc : Nat), e = .returned (.slice U (accsOf l n m).length uc) ∧ RdQ w' w'.heap.size U (accsOf l n m) ∧ Below w.heap.size w w' := by
  have HT1 := Lib.hid (fun h : lockOk l n m = true => show accsOf l n m = (lockS l n.toNat m).accs by simp [accsOf, h])
  have HT2 := Lib.hid (fun h : lockOk l n m = false => show accsOf l n m = [] by simp [accsOf, h])
  generalize accsOf l n m = qs at *
  go_enter Try.func24, Try.ntmps24
  go_wp2_with fail
  refine (runLock_c A Am ca cm l n m w hA hM hl hml).mono ?_
  rintro e w1 (⟨hok, hr⟩ | ⟨hok, rfl, hb1⟩)
  · obtain ⟨z, T, tc, U, uc, rfl, hzB, hzl, hzn, hS, hb1⟩ := hr
    obtain ⟨c0, c1, c2, c3, c4, c5, c6⟩ := hS.cells
    have HK := Lib.hid (HT1.out hok)
    have HR := Lib.hid (OR.reads hS.acc)
    clear hok hS hzn hzB hzl HT1 HT2
    go_wp2
    go_ret
    rw [HK.out]
    exact ⟨U, uc, rfl, HR.out, hb1⟩
  · have HK := Lib.hid (HT2.out hok)
    clear hok
    go_wp2
    go_ret
    rw [HK.out]
    exact ⟨none, 0, rfl, Reads.none_, hb1⟩

theorem sameAccesses_c (A A2 : Option Addr) (c c2 : Nat) (l : List Acc) (w : World) (hA : RdQ w w.heap.size A l) (hA2 : RdQ w w.heap.size A2 l) (hl : l.length ≤ 1000000000) :
    Calls Try.prog 25 #[.slice A l.length c, .slice A2 l.length c2] w fun e w' => e = .returned (.bool true) ∧ Below w.heap.size w w' := by
  go_enter Try.func25, Try.ntmps25
  go_wp2
  go_loopw [5] (fun i wr => ∃ k : Nat, k ≤ l.length ∧ i = .int .i64 k ∧ Below w.heap.size w wr) (fun i _ => l.length - (intOf i).toNat)
  case atStart => exact ⟨0, Nat.zero_le _, rfl, Below.refl _ _⟩
  case round =>
    obtain ⟨k, hk, rfl, hb⟩ := hrel
    by_cases hlt : k < l.length
    · obtain ⟨b, off, x, rfl, hbB, hx, c0, c1, c2', c3⟩ := (hA.below hb).at_ hlt
      obtain ⟨b2, off2, y, rfl, hbB2, hy, d0, d1, d2, d3⟩ := (hA2.below hb).at_ hlt
      rw [hx] at hy
      injection hy with hy
      subst hy
      clear hx
      go_wp2_with fail
      go_quiet (fail)
      go_wp2
      go_roundw
      case rel => exact ⟨k + 1, by omega, by go_num, hb.trans ⟨rfl, rfl, rfl, Nat.le_refl _, fun _ _ => rfl⟩⟩
      case measure => simp [intOf]; omega
    · go_wp2
      go_ret
      exact ⟨rfl, hb⟩

theorem sameBeats_c (A A2 : Option Addr) (c c2 : Nat) (l : List (Nat × Nat)) (w : World) (hA : RdT w w.heap.size A l) (hA2 : RdT w w.heap.size A2 l) (hl : l.length ≤ 1000000000) :
    Calls Try.prog 28 #[.slice A l.length c, .slice A2 l.length c2] w fun e w' => e = .returned (.bool true) ∧ Below w.heap.size w w' := by
  go_enter Try.func28, Try.ntmps28
  go_wp2
  go_loopw [5] (fun i wr => ∃ k : Nat, k ≤ l.length ∧ i = .int .i64 k ∧ Below w.heap.size w wr) (fun i _ => l.length - (intOf i).toNat)
  case atStart => exact ⟨0, Nat.zero_le _, rfl, Below.refl _ _⟩
  case round =>
    obtain ⟨k, hk, rfl, hb⟩ := hrel
    by_cases hlt : k < l.length
    · obtain ⟨b, off, x, rfl, hbB, hx, c0, c1⟩ := (hA.below hb).at_ hlt
      obtain ⟨b2, off2, y, rfl, hbB2, hy, d0, d1⟩ := (hA2.below hb).at_ hlt
      rw [hx] at hy
      injection hy with hy
      subst hy
      clear hx
      go_wp2_with fail
      go_quiet (fail)
      go_wp2
      go_roundw
      case rel => exact ⟨k + 1, by omega, by go_num, hb.trans ⟨rfl, rfl, rfl, Nat.le_refl _, fun _ _ => rfl⟩⟩
      case measure => simp [intOf]; omega
    · go_wp2
      go_ret
      exact ⟨rfl, hb⟩
end Go.Proofs.Ytoiihjbdcjllbaa
