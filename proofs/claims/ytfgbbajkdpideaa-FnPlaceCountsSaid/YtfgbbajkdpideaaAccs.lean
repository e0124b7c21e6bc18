/- Slices of accesses and of beats read; LockAccesses and LockTrace of the program; sameAccesses, sameBeats. -/
import Derived.Test.YtfgbbajkdpideaaILock7
import Derived.Test.YtfgbbajkdpideaaIRun
namespace Go.Proofs.Ytfgbbajkdpideaa
open Go.RowKit
set_option linter.unusedVariables false
set_option linter.unusedSimpArgs false

/-- The slice at A reads as accesses. -/
def RdQ (w : World) (B : Nat) (A : Option Addr) (l : List Acc) : Prop := Reads w B 4 A l.length (accsV l)
/-- The slice at A reads as beats. -/
def RdT (w : World) (B : Nat) (A : Option Addr) (l : List (Nat × Nat)) : Prop := Reads w B 2 A l.length (beatsV l)
theorem accsV_get (l : List Acc) : ∀ (k : Nat) (q : Acc), l[k]? = some q → ∀ j, j < 4 → (accsV l)[k * 4 + j]? = ([.int .i64 q.who, .int .i64 q.cell, .bool q.wr, .int .i64 q.ph] : List Value)[j]? := by
  induction l with
  | nil => intro k q h; simp at h
  | cons y l ih =>
    intro k q h j hj
    cases k with
    | zero =>
      simp at h
      subst h
      simp only [accsV, List.flatMap_cons, Nat.zero_mul, Nat.zero_add]
      rw [List.getElem?_append_left (by simpa using hj)]
    | succ k =>
      simp only [List.getElem?_cons_succ] at h
      have := ih k q h j hj
      simp only [accsV, List.flatMap_cons] at this ⊢
      rw [List.getElem?_append_right (by simp; omega), ← this]
      congr 1
      simp; omega
theorem beatsV_len : ∀ l : List (Nat × Nat), (beatsV l).length = l.length * 2
  | [] => rfl
  | q :: l => by
    have := beatsV_len l
    simp only [beatsV, List.flatMap_cons, List.length_append, List.length_cons, List.length_nil] at this ⊢
    omega
theorem beatsV_at (l : List (Nat × Nat)) : ∀ (k : Nat) (q : Nat × Nat), l[k]? = some q → ∀ j, j < 2 → (beatsV l)[k * 2 + j]? = ([.int .i64 q.1, .int .i64 q.2] : List Value)[j]? := by
  induction l with
  | nil => intro k q h; simp at h
  | cons y l ih =>
    intro k q h j hj
    cases k with
    | zero =>
      simp at h
      subst h
      simp only [beatsV, List.flatMap_cons, Nat.zero_mul, Nat.zero_add]
      rw [List.getElem?_append_left (by simpa using hj)]
    | succ k =>
      simp only [List.getElem?_cons_succ] at h
      have := ih k q h j hj
      simp only [beatsV, List.flatMap_cons] at this ⊢
      rw [List.getElem?_append_right (by simp; omega), ← this]
      congr 1
      simp; omega
section
variable {w w' : World} {B B' : Nat} {A : Option Addr} {l : List Acc} {t : List (Nat × Nat)}
theorem RdQ.below (h : RdQ w B A l) (hb : Below B w w') : RdQ w' B A l := Reads.below h hb
theorem RdQ.more (h : RdQ w B A l) (hB : B ≤ B') : RdQ w B' A l := Reads.more h hB
theorem RdT.below (h : RdT w B A t) (hb : Below B w w') : RdT w' B A t := Reads.below h hb
theorem RdT.more (h : RdT w B A t) (hB : B ≤ B') : RdT w B' A t := Reads.more h hB
theorem RdQ.at_ (h : RdQ w B A l) {k : Nat} (hk : k < l.length) :
    ∃ b off q, A = some ⟨b, off, none⟩ ∧ b < B ∧ l[k]? = some q ∧
      w.cell? ⟨b, off + k * 4, none⟩ = some (.int .i64 q.who) ∧ w.cell? ⟨b, off + k * 4 + 1, none⟩ = some (.int .i64 q.cell) ∧
      w.cell? ⟨b, off + k * 4 + 2, none⟩ = some (.bool q.wr) ∧ w.cell? ⟨b, off + k * 4 + 3, none⟩ = some (.int .i64 q.ph) := by
  obtain ⟨b, off, e, hb, hc⟩ := h.2 (by omega)
  have hx : l[k]? = some l[k] := List.getElem?_eq_getElem hk
  have g := accsV_get l k _ hx
  exact ⟨b, off, l[k], e, hb, hx, hc (k * 4) _ (g 0 (by omega)), hc (k * 4 + 1) _ (g 1 (by omega)), hc (k * 4 + 2) _ (g 2 (by omega)), hc (k * 4 + 3) _ (g 3 (by omega))⟩
theorem RdT.at_ (h : RdT w B A t) {k : Nat} (hk : k < t.length) :
    ∃ b off q, A = some ⟨b, off, none⟩ ∧ b < B ∧ t[k]? = some q ∧ w.cell? ⟨b, off + k * 2, none⟩ = some (.int .i64 q.1) ∧ w.cell? ⟨b, off + k * 2 + 1, none⟩ = some (.int .i64 q.2) := by
  obtain ⟨b, off, e, hb, hc⟩ := h.2 (by omega)
  have hx : t[k]? = some t[k] := List.getElem?_eq_getElem hk
  have g := beatsV_at t k _ hx
  exact ⟨b, off, t[k], e, hb, hx, hc (k * 2) _ (g 0 (by omega)), hc (k * 2 + 1) _ (g 1 (by omega))⟩
end
noncomputable def accsOf (l : List Cd) (n : Int) (m : List Int) : List Acc := if lockOk l n m then (lockS l n.toNat m).accs else []

theorem iLockTraceT_c (A Am : Option Addr) (ca cm : Nat) (l : List Cd) (n : Int) (m : List Int) (w : World) (hA : RdC w w.heap.size A l) (hM : RdI w w.heap.size Am m) (hl : l.length ≤ 1000000000) (hml : m.length ≤ 1000000000) :
    Calls Try.prog 18 #[.slice A l.length ca, .int .i64 n, .slice Am m.length cm] w fun e w' => ∃ (T : Option Addr) (tc : Nat), e = .returned (.slice T (traceOf l n m).length tc) ∧ RdT w' w'.heap.size T (traceOf l n m) ∧ Below w.heap.size w w' := by
  have HT1 := Lib.hid (fun h : lockOk l n m = true => show traceOf l n m = (lockS l n.toNat m).beats by simp [traceOf, h])
  have HT2 := Lib.hid (fun h : lockOk l n m = false => show traceOf l n m = [] by simp [traceOf, h])
  generalize traceOf l n m = tr at *
  go_enter Try.func18, Try.ntmps18
  go_wp2_with fail
  refine (runLock_c A Am ca cm l n m w hA hM hl hml).mono ?_
  rintro e w1 (⟨hok, hr⟩ | ⟨hok, rfl, hb1⟩)
  · obtain ⟨z, T, tc, U, uc, rfl, hzB, hzl, hzn, hS, hb1⟩ := hr
    obtain ⟨c0, c1, c2, c3, c4, c5, c6⟩ := hS.cells
    have HK := Lib.hid (HT1.out hok)
    have HR := Lib.hid (OR.reads hS.trc)
    clear hok hS hzn hzB hzl HT1 HT2
    go_wp2
    go_ret
    rw [HK.out]
    exact ⟨T, tc, rfl, HR.out, hb1⟩
  · have HK := Lib.hid (HT2.out hok)
    clear hok
    go_wp2
    go_ret
    rw [HK.out]
    exact ⟨none, 0, rfl, Reads.none_, hb1⟩

def clashI (aw ac bw bc ap bp : Int) (ar br : Bool) : Bool := (ap == bp) && (aw != bw) && (ac == bc) && (ar || br)
def clashA (a b : Acc) : Bool := clashI a.who a.cell b.who b.cell a.ph b.ph a.wr b.wr
def clashAt (l : List Acc) (i k : Nat) : Prop := ∃ a b, l[i]? = some a ∧ l[k]? = some b ∧ clashA a b = true
noncomputable def raceB (l : List Acc) : Bool := @decide (∃ k i, i < k ∧ clashAt l i k) (Classical.propDecidable _)
theorem race_yes {l : List Acc} {i k : Nat} {a b : Acc} (h : i < k) (ha : l[i]? = some a) (hb : l[k]? = some b) (hc : clashA a b = true) : raceB l = true := by
  unfold raceB
  exact @decide_eq_true _ (Classical.propDecidable _) ⟨k, i, h, a, b, ha, hb, hc⟩
theorem race_no {l : List Acc} (h : ∀ k i, k < l.length → i < k → ¬ clashAt l i k) : raceB l = false := by
  unfold raceB
  refine @decide_eq_false _ (Classical.propDecidable _) ?_
  rintro ⟨k, i, hik, hc⟩
  obtain ⟨a, b, ha, hb, hh⟩ := hc
  exact h k i (List.getElem?_eq_some_iff.1 hb).1 hik ⟨a, b, ha, hb, hh⟩

theorem RdQ.sub {w : World} {B : Nat} {A : Option Addr} {l : List Acc} (h : RdQ w B A l) {k : Nat} {x : Acc} (hx : l[k]? = some x) {b off : Nat} (e : A = some ⟨b, off, none⟩) : b < B ∧
    w.cell? ⟨b, off + k * 4, none⟩ = some (.int .i64 x.who) ∧ w.cell? ⟨b, off + k * 4 + 1, none⟩ = some (.int .i64 x.cell) ∧
      w.cell? ⟨b, off + k * 4 + 2, none⟩ = some (.bool x.wr) ∧ w.cell? ⟨b, off + k * 4 + 3, none⟩ = some (.int .i64 x.ph) := by
  obtain ⟨b', off', q, e', hb, hq, c0, c1, c2, c3⟩ := h.at_ (List.getElem?_eq_some_iff.1 hx).1
  rw [hx] at hq
  injection hq with hq
  subst hq
  rw [e] at e'
  injection e' with e'
  injection e' with e1 e2
  subst e1 e2
  exact ⟨hb, c0, c1, c2, c3⟩

theorem OR.cap4 {w : World} {base e size n c : Nat} {A : Option Addr} {xs : List Value} (h : OR w base e size A n c xs) : n ≤ c := by
  rcases h.2 with ⟨hv, h0⟩ | ⟨g, cap, cur, hv, -, -, h4, -⟩
  · omega
  · injection hv with _ _ h3
    omega

noncomputable def reasonOf (l : List Cd) (n : Int) (m : List Int) : Int := if lockOk l n m then (if splitB l n.toNat (lockS l n.toNat m).beats then 2 else if raceB (accsOf l n m) then 3 else 0) else 1

theorem lockAccs_len {l : List Cd} {n : Int} {m : List Int} (h : lockOk l n m = true) : (lockS l n.toNat m).accs.length ≤ 20480 := by
  have h1 := (run_bd (treeOf l) 0 (2 ^ n.toNat - 1) (LS.start n.toNat m) (Bd.start _ _)).1
  simp only [lockOk, Bool.and_eq_true] at h
  have h2 := trace_len h.1 n.toNat m
  have e : lockS l n.toNat m = (treeOf l).run 0 (2 ^ n.toNat - 1) (LS.start n.toNat m) := rfl
  rw [← e] at h1
  omega

end Go.Proofs.Ytfgbbajkdpideaa
