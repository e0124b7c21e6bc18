/- Slices of accesses and of beats read; LockAccesses and LockTrace of the program; sameAccesses, sameBeats. -/
import Derived.Test.YtakeacndmnnbmaaGreatILock7
import Derived.Test.YtakeacndmnnbmaaGreatIRun
namespace Go.Proofs.YtakeacndmnnbmaaGreat
open Go.RowKit
set_option linter.unusedVariables false
set_option linter.unusedSimpArgs false

/-- The slice at A reads as accesses. -/
def RdQ (w : World) (B : Nat) (A : Option Addr) (l : List Acc) : Prop := Reads w B 4 A l.length (accsV l)
/-- The slice at A reads as beats. -/
def RdT (w : World) (B : Nat) (A : Option Addr) (l : List (Nat × Nat)) : Prop := Reads w B 2 A l.length (beatsV l)
theorem accsV_get (l : List Acc) : ∀ (k : Nat) (q : Acc), l[k]? = some q → ∀ j, j < 4 → (accsV l)[k * 4 + j]? = ([.int .i64 q.who, .int .i64 q.cell, .bool q.wr, .int .i64 q.ph] : List Value)[j]? := by
  induction l with
  | nil => intro k q h; simp at h
  | cons y l ih =>
    intro k q h j hj
    cases k with
    | zero =>
      simp at h
      subst h
      simp only [accsV, List.flatMap_cons, Nat.zero_mul, Nat.zero_add]
      rw [List.getElem?_append_left (by simpa using hj)]
    | succ k =>
      simp only [List.getElem?_cons_succ] at h
      have := ih k q h j hj
      simp only [accsV, List.flatMap_cons] at this ⊢
      rw [List.getElem?_append_right (by simp; omega), ← this]
      congr 1
      simp; omega
theorem beatsV_len : ∀ l : List (Nat × Nat), (beatsV l).length = l.length * 2
  | [] => rfl
  | q :: l => by
    have := beatsV_len l
    simp only [beatsV, List.flatMap_cons, List.length_append, List.length_cons, List.length_nil] at this ⊢
    omega
theorem beatsV_at (l : List (Nat × Nat)) : ∀ (k : Nat) (q : Nat × Nat), l[k]? = some q → ∀ j, j < 2 → (beatsV l)[k * 2 + j]? = ([.int .i64 q.1, .int .i64 q.2] : List Value)[j]? := by
  induction l with
  | nil => intro k q h; simp at h
  | cons y l ih =>
    intro k q h j hj
    cases k with
    | zero =>
      simp at h
      subst h
      simp only [beatsV, List.flatMap_cons, Nat.zero_mul, Nat.zero_add]
      rw [List.getElem?_append_left (by simpa using hj)]
    | succ k =>
      simp only [List.getElem?_cons_succ] at h
      have := ih k q h j hj
      simp only [beatsV, List.flatMap_cons] at this ⊢
      rw [List.getElem?_append_right (by simp; omega), ← this]
      congr 1
      simp; omega
section
variable {w w' : World} {B B' : Nat} {A : Option Addr} {l : List Acc} {t : List (Nat × Nat)}
theorem RdQ.below (h : RdQ w B A l) (hb : Below B w w') : RdQ w' B A l := Reads.below h hb
theorem RdQ.more (h : RdQ w B A l) (hB : B ≤ B') : RdQ w B' A l := Reads.more h hB
theorem RdT.below (h : RdT w B A t) (hb : Below B w w') : RdT w' B A t := Reads.below h hb
theorem RdT.more (h : RdT w B A t) (hB : B ≤ B') : RdT w B' A t := Reads.more h hB
theorem RdQ.at_ (h : RdQ w B A l) {k : Nat} (hk : k < l.length) :
    ∃ b off q, A = some ⟨b, off, none⟩ ∧ b < B ∧ l[k]? = some q ∧
      w.cell? ⟨b, off + k * 4, none⟩ = some (.int .i64 q.who) ∧ w.cell? ⟨b, off + k * 4 + 1, none⟩ = some (.int .i64 q.cell) ∧
      w.cell? ⟨b, off + k * 4 + 2, none⟩ = some (.bool q.wr) ∧ w.cell? ⟨b, off + k * 4 + 3, none⟩ = some (.int .i64 q.ph) := by
  obtain ⟨b, off, e, hb, hc⟩ := h.2 (by omega)
  have hx : l[k]? = some l[k] := List.getElem?_eq_getElem hk
  have g := accsV_get l k _ hx
  exact ⟨b, off, l[k], e, hb, hx, hc (k * 4) _ (g 0 (by omega)), hc (k * 4 + 1) _ (g 1 (by omega)), hc (k * 4 + 2) _ (g 2 (by omega)), hc (k * 4 + 3) _ (g 3 (by omega))⟩
theorem RdT.at_ (h : RdT w B A t) {k : Nat} (hk : k < t.length) :
    ∃ b off q, A = some ⟨b, off, none⟩ ∧ b < B ∧ t[k]? = some q ∧ w.cell? ⟨b, off + k * 2, none⟩ = some (.int .i64 q.1) ∧ w.cell? ⟨b, off + k * 2 + 1, none⟩ = some (.int .i64 q.2) := by
  obtain ⟨b, off, e, hb, hc⟩ := h.2 (by omega)
  have hx : t[k]? = some t[k] := List.getElem?_eq_getElem hk
  have g := beatsV_at t k _ hx
  exact ⟨b, off, t[k], e, hb, hx, hc (k * 2) _ (g 0 (by omega)), hc (k * 2 + 1) _ (g 1 (by omega))⟩
end
noncomputable def accsOf (l : List Cd) (n : Int) (m : List Int) : List Acc := if lockOk l n m then (lockS l n.toNat m).accs else []

def clashI (aw ac bw bc ap bp : Int) (ar br : Bool) : Bool := (ap == bp) && (aw != bw) && (ac == bc) && (ar || br)
def clashA (a b : Acc) : Bool := clashI a.who a.cell b.who b.cell a.ph b.ph a.wr b.wr
def clashAt (l : List Acc) (i k : Nat) : Prop := ∃ a b, l[i]? = some a ∧ l[k]? = some b ∧ clashA a b = true
noncomputable def raceB (l : List Acc) : Bool := @decide (∃ k i, i < k ∧ clashAt l i k) (Classical.propDecidable _)
theorem race_yes {l : List Acc} {i k : Nat} {a b : Acc} (h : i < k) (ha : l[i]? = some a) (hb : l[k]? = some b) (hc : clashA a b = true) : raceB l = true := by
  unfold raceB
  exact @decide_eq_true _ (Classical.propDecidable _) ⟨k, i, h, a, b, ha, hb, hc⟩
theorem race_no {l : List Acc} (h : ∀ k i, k < l.length → i < k → ¬ clashAt l i k) : raceB l = false := by
  unfold raceB
  refine @decide_eq_false _ (Classical.propDecidable _) ?_
  rintro ⟨k, i, hik, hc⟩
  obtain ⟨a, b, ha, hb, hh⟩ := hc
  exact h k i (List.getElem?_eq_some_iff.1 hb).1 hik ⟨a, b, ha, hb, hh⟩

set_option maxRecDepth 100000 in
set_option maxHeartbeats 4000000 in
theorem clash_c (aw ac bw bc ap bp : Int) (ar br : Bool) (w : World) :
    Calls Tryz.prog 95 #[.agg #[.int .i64 aw, .int .i64 ac, .bool ar, .int .i64 ap], .agg #[.int .i64 bw, .int .i64 bc, .bool br, .int .i64 bp]] w fun e w' => e = .returned (.bool (clashI aw ac bw bc ap bp ar br)) ∧ Below w.heap.size w w' := by
  have HC := Lib.hid (show clashI aw ac bw bc ap bp ar br = ((ap == bp) && (aw != bw) && (ac == bc) && (ar || br)) from rfl)
  obtain ⟨x1, h1⟩ : ∃ x, (ap == bp) = x := ⟨_, rfl⟩
  obtain ⟨x2, h2⟩ : ∃ x, (aw != bw) = x := ⟨_, rfl⟩
  obtain ⟨x3, h3⟩ : ∃ x, (ac == bc) = x := ⟨_, rfl⟩
  rw [h1, h2, h3] at HC
  have hbw : Below w.heap.size w ((w.alloc (.cells #[.int .i64 aw, .int .i64 ac, .bool ar, .int .i64 ap] 118)).alloc (.cells #[.int .i64 bw, .int .i64 bc, .bool br, .int .i64 bp] 118)) := (by repeat (first | exact Below.refl _ _ | assumption | refine Below.alloc ?_ (by simp <;> omega) _ | refine Below.setCell ?_ (by simp <;> omega) _ | refine Below.drew ?_))
  cases x1 <;> cases x2 <;> cases x3 <;> cases ar <;> (
    go_enter Tryz.func95, Tryz.ntmps95
    go_wp2
    go_ret
    exact ⟨by rw [HC.out]; rfl, hbw⟩)

theorem RdQ.sub {w : World} {B : Nat} {A : Option Addr} {l : List Acc} (h : RdQ w B A l) {k : Nat} {x : Acc} (hx : l[k]? = some x) {b off : Nat} (e : A = some ⟨b, off, none⟩) : b < B ∧
    w.cell? ⟨b, off + k * 4, none⟩ = some (.int .i64 x.who) ∧ w.cell? ⟨b, off + k * 4 + 1, none⟩ = some (.int .i64 x.cell) ∧
      w.cell? ⟨b, off + k * 4 + 2, none⟩ = some (.bool x.wr) ∧ w.cell? ⟨b, off + k * 4 + 3, none⟩ = some (.int .i64 x.ph) := by
  obtain ⟨b', off', q, e', hb, hq, c0, c1, c2, c3⟩ := h.at_ (List.getElem?_eq_some_iff.1 hx).1
  rw [hx] at hq
  injection hq with hq
  subst hq
  rw [e] at e'
  injection e' with e'
  injection e' with e1 e2
  subst e1 e2
  exact ⟨hb, c0, c1, c2, c3⟩

set_option maxRecDepth 100000 in
set_option maxHeartbeats 4000000 in
theorem firstRace_c (A : Option Addr) (c : Nat) (l : List Acc) (w : World) (hA : RdQ w w.heap.size A l) (hc : l.length ≤ c) (hl : l.length ≤ 1000000000) :
    Calls Tryz.prog 63 #[.slice A l.length c] w fun e w' => ∃ i k : Int, e = .returned (.tuple #[.int .i64 i, .int .i64 k, .bool (raceB l)]) ∧ Below w.heap.size w w' := by
  go_enter Tryz.func63, Tryz.ntmps63
  go_wp2
  go_loopw [11] (fun kv wr => ∃ k : Nat, k ≤ l.length ∧ kv = .int .i64 k ∧ Below w.heap.size w wr ∧ Hid (∀ j i, j < k → i < j → ¬ clashAt l i j)) (fun kv _ => l.length - (intOf kv).toNat)
  case atStart => exact ⟨0, Nat.zero_le _, rfl, Below.refl _ _, Lib.hid (fun j i h => by omega)⟩
  case round =>
    obtain ⟨k, hk, rfl, hb, hno⟩ := hrel
    by_cases hlt : k < l.length
    · obtain ⟨b, off, x, rfl, hbB, hx, c0, c1, c2, c3⟩ := (hA.below hb).at_ hlt
      have hbs := hb.size
      have hkI : (k : Int) < (l.length : Int) := by omega
      have hkc : (k : Int) ≤ (c : Int) := by omega
      have HX := Lib.hid hx
      have hbb : b < wr.heap.size := by omega
      clear hx
      go_wp2
      obtain ⟨wo, how⟩ : ∃ z, z = wr.alloc (.cells #[.int .i64 x.who, .int .i64 x.cell, .bool x.wr, .int .i64 x.ph] 118) := ⟨_, rfl⟩
      have hwob : Below w.heap.size w wo := by rw [how]; exact hb.alloc hbs _
      have hn := heap_alloc_new wr (.cells #[.int .i64 x.who, .int .i64 x.cell, .bool x.wr, .int .i64 x.ph] 118)
      rw [← how] at hn
      have hws : wr.heap.size < wo.heap.size := lt_of_block hn
      rw [← how]
      generalize wr.heap.size = xb at *
      clear c0 c1 c2 c3 how
      clear hb
      obtain ⟨w0, hw0⟩ : ∃ z, z = wo := ⟨wo, rfl⟩
      subst hw0
      go_loopw [20] (fun iv wi => ∃ i : Nat, i ≤ k ∧ iv = .int .i64 i ∧ Below w0.heap.size w0 wi ∧ Hid (∀ j, j < i → ¬ clashAt l j k)) (fun iv _ => k - (intOf iv).toNat)
      case atStart => exact ⟨0, Nat.zero_le _, rfl, Below.refl _ _, Lib.hid (fun j h => by omega)⟩
      case round =>
        obtain ⟨i, hi, rfl, hbi, hni⟩ := hrel
        have hbi2 := below_trans hwob (Nat.le_refl _) hbi
        have d0 : wr.cell? ⟨xb, 0, none⟩ = some (.int .i64 x.who) := cell_kept hbi (cell_of_heap hn 0)
        have d1 : wr.cell? ⟨xb, 1, none⟩ = some (.int .i64 x.cell) := cell_kept hbi (cell_of_heap hn 1)
        have d2 : wr.cell? ⟨xb, 2, none⟩ = some (.bool x.wr) := cell_kept hbi (cell_of_heap hn 2)
        have d3 : wr.cell? ⟨xb, 3, none⟩ = some (.int .i64 x.ph) := cell_kept hbi (cell_of_heap hn 3)
        by_cases hik : i < k
        · have hil : i < l.length := by omega
          have hy : l[i]? = some (l[i]) := List.getElem?_eq_getElem hil
          generalize l[i] = y at hy
          obtain ⟨-, e0, e1, e2, e3⟩ := (hA.below hbi2).sub hy rfl
          have hikI : (i : Int) < (k : Int) := by omega
          have HY := Lib.hid hy
          have HCL := Lib.hid (show clashI y.who y.cell x.who x.cell y.ph x.ph y.wr x.wr = clashA y x from rfl)
          have hbis := hbi2.size
          have hxw : xb < wr.heap.size := by have := hbi.size; omega
          clear hy
          go_wp2_with fail
          refine (clash_c y.who y.cell x.who x.cell y.ph x.ph y.wr x.wr _).mono ?_
          rintro e w5 ⟨rfl, hb5⟩
          rw [HCL.out]
          have hb6 := below_trans (Below.alloc (Below.refl wr.heap.size wr) (Nat.le_refl _) (.cells #[.int .i64 y.who, .int .i64 y.cell, .bool y.wr, .int .i64 y.ph] 118)) (by simp) hb5
          have hb7 := below_trans hbi (Nat.le_refl _) hb6
          cases hcl : clashA y x with
          | true =>
            have HR := Lib.hid (race_yes hik HY.out HX.out hcl)
            clear hcl
            go_wp2
            go_ret3
            rw [HR.out]
            exact ⟨_, _, rfl, below_trans hwob (Nat.le_refl _) hb7⟩
          | false =>
            have HN := Lib.hid (show ∀ j, j < i + 1 → ¬ clashAt l j k from fun j hj => by
              by_cases e : j = i
              · subst e
                rintro ⟨a, b, ha, hb, hh⟩
                rw [HY.out] at ha
                rw [HX.out] at hb
                injection ha with ha
                injection hb with hb
                subst ha hb
                rw [hcl] at hh
                cases hh
              · exact hni.out j (by omega))
            clear hcl
            go_wp2
            go_roundw
            case rel => exact ⟨i + 1, by omega, by go_num, hb7, HN⟩
            case measure => simp [intOf]; omega
        · obtain rfl : i = k := by omega
          go_wp2
          go_roundw
          case rel => exact ⟨i + 1, by omega, by go_num, hbi2, Lib.hid (fun j i' hj hi' => by
            by_cases e : j = i
            · subst e; exact hni.out i' hi'
            · exact hno.out j i' (by omega) hi')⟩
          case measure => simp [intOf]; omega
    · obtain rfl : k = l.length := by omega
      have HR := Lib.hid (race_no (fun k i h1 h2 => hno.out k i h1 h2))
      go_wp2
      go_ret3
      rw [HR.out]
      exact ⟨_, _, rfl, hb⟩

theorem OR.cap4 {w : World} {base e size n c : Nat} {A : Option Addr} {xs : List Value} (h : OR w base e size A n c xs) : n ≤ c := by
  rcases h.2 with ⟨hv, h0⟩ | ⟨g, cap, cur, hv, -, -, h4, -⟩
  · omega
  · injection hv with _ _ h3
    omega

noncomputable def reasonOf (l : List Cd) (n : Int) (m : List Int) : Int := if lockOk l n m then (if splitB l n.toNat (lockS l n.toNat m).beats then 2 else if raceB (accsOf l n m) then 3 else 0) else 1

theorem lockAccs_len {l : List Cd} {n : Int} {m : List Int} (h : lockOk l n m = true) : (lockS l n.toNat m).accs.length ≤ 20480 := by
  have h1 := (run_bd (treeOf l) 0 (2 ^ n.toNat - 1) (LS.start n.toNat m) (Bd.start _ _)).1
  simp only [lockOk, Bool.and_eq_true] at h
  have h2 := trace_len h.1 n.toNat m
  have e : lockS l n.toNat m = (treeOf l).run 0 (2 ^ n.toNat - 1) (LS.start n.toNat m) := rfl
  rw [← e] at h1
  omega

set_option maxRecDepth 100000 in
set_option maxHeartbeats 4000000 in
theorem reason_c (A Am : Option Addr) (ca cm : Nat) (l : List Cd) (n : Int) (m : List Int) (w : World) (hA : RdC w w.heap.size A l) (hM : RdI w w.heap.size Am m) (hl : l.length ≤ 1000000000) (hml : m.length ≤ 1000000000) :
    Calls Tryz.prog 35 #[.slice A l.length ca, .int .i64 n, .slice Am m.length cm] w fun e w' => e = .returned (.int .i64 (reasonOf l n m)) ∧ Below w.heap.size w w' := by
  go_enter Tryz.func35, Tryz.ntmps35
  go_wp2_with fail
  refine (runLock_c A Am ca cm l n m w hA hM hl hml).mono ?_
  rintro e w1 (⟨hok, hr⟩ | ⟨hok, rfl, hb1⟩)
  · obtain ⟨z, T, tc, U, uc, rfl, hzB, hzl, hzn, hS, hb1⟩ := hr
    have hn := hok
    simp only [lockOk, Bool.and_eq_true] at hn
    have hn1 := inR_iff.1 hn.2.1
    have HR := Lib.hid (show reasonOf l n m = (if splitB l n.toNat (lockS l n.toNat m).beats then 2 else if raceB (lockS l n.toNat m).accs then 3 else 0) by simp [reasonOf, accsOf, hok])
    have hlen := trace_len hn.1 n.toNat m
    have hal := lockAccs_len hok
    have hin : ∀ q ∈ (lockS l n.toNat m).beats, q.1 < z.l.length ∧ q.2 < 256 := fun q hq => by rw [hzl]; exact lock_in hok q hq
    have hsp := Lib.hid (split_c hS hin hlen (by rw [hzl]; exact hl) (by omega) (by rw [hzB]; exact hb1.size))
    have HZ := Lib.hid (show splitB z.l z.n (lockS l n.toNat m).beats = splitB l n.toNat (lockS l n.toNat m).beats by rw [hzl, hzn])
    have hs1 : w.heap.size ≤ w1.heap.size := hb1.size
    have HS := Lib.hid hS
    clear hS hok hn hzn hlen hin hzl
    go_wp2_with fail
    refine hsp.out.mono ?_
    rintro e w2 ⟨p, mm, rfl, hb2⟩
    have hbw := below_trans hb1 (Nat.le_refl _) hb2
    have hS2 := HS.out.ext (Ext.of_below hb2) (by rw [hzB]; exact hs1)
    obtain ⟨-, -, -, -, c4, -, -⟩ := hS2.cells
    rw [HZ.out]
    have hX := Ext.alloc w2 (.cells #[.int .i64 p, .int .i64 mm] 83)
    have c4' := hX.cell c4
    have hQ : RdQ w2 w2.heap.size U (lockS l n.toNat m).accs := OR.reads hS2.acc
    have hcap := OR.cap4 hS2.acc
    have HQ := Lib.hid ((hQ.below hX.below).more hX.size)
    have hbX : Below w.heap.size w (w2.alloc (.cells #[.int .i64 p, .int .i64 mm] 83)) := hbw.alloc hbw.size _
    clear hS2 c4 hQ HS hsp HZ
    generalize (lockS l n.toNat m).accs = qs at *
    generalize splitB l n.toNat (lockS l n.toNat m).beats = sb at *
    cases sb with
    | true =>
      go_wp2
      go_ret
      exact ⟨by rw [HR.out]; rfl, hbX⟩
    | false =>
      go_wp2_with fail
      refine (firstRace_c U uc qs _ HQ.out hcap (by omega)).mono ?_
      rintro e w3 ⟨i, k, rfl, hb3⟩
      have hb4 := below_trans hbX (by simp) hb3
      generalize raceB qs = rb at *
      cases rb with
      | true =>
        go_wp2
        go_ret
        exact ⟨by rw [HR.out]; rfl, hb4⟩
      | false =>
        go_wp2
        go_ret
        exact ⟨by rw [HR.out]; rfl, hb4⟩
  · have HR := Lib.hid (show reasonOf l n m = 1 by simp [reasonOf, hok])
    clear hok
    go_wp2
    go_ret
    exact ⟨reti (by rw [HR.out]), hb1⟩

end Go.Proofs.YtakeacndmnnbmaaGreat
