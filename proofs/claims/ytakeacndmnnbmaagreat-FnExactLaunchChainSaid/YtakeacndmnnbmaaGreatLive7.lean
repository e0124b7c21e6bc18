/- The program's successors of a place. -/
import Derived.Test.YtakeacndmnnbmaaGreatLive1
import Derived.Test.YtakeacndmnnbmaaGreatBlocks0
import Derived.Test.YtakeacndmnnbmaaGreatLock0
namespace Go.Proofs.YtakeacndmnnbmaaGreat
open Go.RowKit
set_option linter.unusedVariables false
set_option linter.unusedSimpArgs false

/-- Loops are not divided. -/
theorem loop_else {l : List Cd} (b : Blk) : ∀ (d p : Nat) (rest : List Cd), b.ok d → l.drop p = b.flat ++ rest → ∀ k, p ≤ k → k < p + b.flat.length → (cdAt l k).op = 13 → (endOf l k).2 = -1 := by
  induction b with
  | nil => intro d p rest _ _ k h1 h2; simp [Blk.flat] at h2; omega
  | op x r ih =>
    intro d p rest ⟨_, _, h10, hr⟩ h k h1 h2 ho
    obtain ⟨e1, e2, _⟩ := drop_cons (show l.drop p = x :: (r.flat ++ rest) from h)
    by_cases e : k = p
    · subst e; rw [cdAt_get e1] at ho; omega
    · exact ih d (p + 1) rest hr e2 k (by omega) (by simp [Blk.flat] at h2; omega) ho
  | iff a t r iht ihr =>
    intro d p rest ⟨_, _, ht, hr⟩ h k h1 h2 ho
    have h' : l.drop p = cIf a :: (t.flat ++ cEnd :: (r.flat ++ rest)) := by rw [h]; simp [Blk.flat]
    obtain ⟨_, g2, g3⟩ := end_iff ht h'
    simp only [Blk.flat, List.length_cons, List.length_append] at h2
    by_cases e : k = p
    · subst e; rw [cdAt_get (drop_cons h').1] at ho; simp [cIf] at ho
    · by_cases e2 : k < p + 1 + t.flat.length
      · exact iht _ _ _ ht g2 k (by omega) e2 ho
      · by_cases e3 : k = p + 1 + t.flat.length
        · subst e3; rw [cdAt_get (drop_cons (drop_skip g2)).1] at ho; simp [cEnd] at ho
        · exact ihr d _ _ hr g3 k (by omega) (by omega) ho
  | ife a t e r iht ihe ihr =>
    intro d p rest ⟨_, _, ht, he, hr⟩ h k h1 h2 ho
    have h' : l.drop p = cIf a :: (t.flat ++ cElse :: (e.flat ++ cEnd :: (r.flat ++ rest))) := by rw [h]; simp [Blk.flat]
    obtain ⟨_, g2, g3, g4⟩ := end_ife ht he h'
    simp only [Blk.flat, List.length_cons, List.length_append] at h2
    by_cases e0 : k = p
    · subst e0; rw [cdAt_get (drop_cons h').1] at ho; simp [cIf] at ho
    · by_cases e2 : k < p + 1 + t.flat.length
      · exact iht _ _ _ ht g2 k (by omega) e2 ho
      · by_cases e3 : k = p + 1 + t.flat.length
        · subst e3; rw [cdAt_get (drop_cons (drop_skip g2)).1] at ho; simp [cElse] at ho
        · by_cases e4 : k < p + t.flat.length + 2 + e.flat.length
          · exact ihe _ _ _ he g3 k (by omega) e4 ho
          · by_cases e5 : k = p + t.flat.length + 2 + e.flat.length
            · subst e5; rw [cdAt_get (drop_cons (drop_skip g3)).1] at ho; simp [cEnd] at ho
            · exact ihr d _ _ hr g4 k (by omega) (by omega) ho
  | loop a c t r iht ihr =>
    intro d p rest ⟨_, _, _, ht, hr⟩ h k h1 h2 ho
    have h' : l.drop p = cLoop a c :: (t.flat ++ cEnd :: (r.flat ++ rest)) := by rw [h]; simp [Blk.flat]
    obtain ⟨g1, g2, g3⟩ := end_iff ht h'
    simp only [Blk.flat, List.length_cons, List.length_append] at h2
    by_cases e : k = p
    · subst e; rw [g1]
    · by_cases e2 : k < p + 1 + t.flat.length
      · exact iht _ _ _ ht g2 k (by omega) e2 ho
      · by_cases e3 : k = p + 1 + t.flat.length
        · subst e3; rw [cdAt_get (drop_cons (drop_skip g2)).1] at ho; simp [cEnd] at ho
        · exact ihr d _ _ hr g3 k (by omega) (by omega) ho
theorem loop_elseAt {l : List Cd} (hp : pv l = true) {k : Nat} (hk : k < l.length) (ho : (cdAt l k).op = 13) : elseAt l k = -1 := by
  obtain ⟨_, b, hb, he⟩ := pv_tree.1 hp
  exact loop_else b 3 0 [] hb (by simp [he]) k (Nat.zero_le _) (by rw [he]; omega) ho

/-- A table of blocks. -/
structure BK (w : World) (B : Nat) (l : List Cd) (ob : Nat) (ga : Nat → Nat) : Prop where
  own : OR w B 120 1 (some ⟨ob, 0, none⟩) l.length l.length (ownRow l ga l.length)
  bks : ∀ p, p < l.length → opB (cdAt l p) = true → w.heap[ga p]? = some (.cells #[.int .i64 p, .int .i64 (endOf l p).2, .int .i64 (endOf l p).1] 122 (0, 0))
theorem BK.of {w w' : World} {l : List Cd} {ga : Nat → Nat} {oth en : Nat → Int} {As : Option Addr} {cs : Nat} (hW : WInv w l l.length [] ga oth en As cs w') (hP : PInv l l.length [] oth en) : BK w' w.heap.size l (w.heap.size + 1) ga :=
  ⟨hW.own, fun p hp ho => by
    have hc := hP.clo p hp ho (by simp)
    rw [hc]
    exact (hW.blk p hp ho).2⟩
theorem BK.below {w w' : World} {B : Nat} {l : List Cd} {ob : Nat} {ga : Nat → Nat} (h : BK w B l ob ga) (hb : Below w.heap.size w w') : BK w' B l ob ga :=
  ⟨h.own.below hb (Nat.le_refl _), fun p hp ho => (hb.block _ (lt_of_block (h.bks p hp ho))).trans (h.bks p hp ho)⟩
theorem ownRow_shut {l : List Cd} {ga : Nat → Nat} {q : Nat} {x : Cd} (hx : l[q]? = some x) (h : x.op = 12 ∨ x.op = 14) : (ownRow l ga l.length)[q]? = some (.pointer (some ⟨ga (aroundN l q), 0, none⟩)) := by
  have hq := (List.getElem?_eq_some_iff.1 hx).1
  have e1 : opB x = false := by simp [opB]; omega
  have e2 : (x.op == 12 || x.op == 14) = true := by rcases h with h | h <;> simp [h]
  rw [ownRow_get _ _ _ _ hq, if_pos hq]
  simp only [ownV, ownP, cdAt_get hx, e1, e2]
  rfl
theorem ownRow_open' {l : List Cd} {ga : Nat → Nat} {q : Nat} {x : Cd} (hx : l[q]? = some x) (ho : opB x = true) : (ownRow l ga l.length)[q]? = some (.pointer (some ⟨ga q, 0, none⟩)) := by
  have hq := (List.getElem?_eq_some_iff.1 hx).1
  rw [ownRow_get _ _ _ _ hq, if_pos hq]
  simp [ownV, ownP, cdAt_get hx, ho, ptrV]
theorem ownRow_none {l : List Cd} {ga : Nat → Nat} {q : Nat} {x : Cd} (hx : l[q]? = some x) (e1 : opB x = false) (e2 : x.op ≠ 12) (e3 : x.op ≠ 14) : (ownRow l ga l.length)[q]? = some (.pointer none) := by
  have hq := (List.getElem?_eq_some_iff.1 hx).1
  rw [ownRow_get _ _ _ _ hq, if_pos hq]
  simp [ownV, ownP, cdAt_get hx, e1, e2, e3]

/-- The successors of a place are returned. -/
def RetS (w : World) (l : List Cd) (k : Nat) (e : Ending) (w' : World) : Prop :=
  ∃ A c, e = .returned (.slice A (succI l k).length c) ∧ OI w' w.heap.size A (succI l k).length c (succI l k) ∧ Below w.heap.size w w'
theorem RetS.one {w w' : World} {l : List Cd} {k : Nat} {x : Int} (h : succI l k = [x]) (hb : Below w.heap.size w w') : RetS w l k (.returned (.slice (some ⟨w'.heap.size, 0, none⟩) 1 1)) (w'.alloc (.cells #[.int .i64 x] 3)) :=
  ⟨_, 1, by rw [h]; rfl, by rw [h]; exact int_lit w' _ hb.size x, hb.alloc hb.size _⟩
theorem RetS.two {w w' : World} {l : List Cd} {k : Nat} {x y : Int} (h : succI l k = [x, y]) (hb : Below w.heap.size w w') : RetS w l k (.returned (.slice (some ⟨w'.heap.size, 0, none⟩) 2 2)) (w'.alloc (.cells #[.int .i64 x, .int .i64 y] 3)) :=
  ⟨_, 2, by rw [h]; rfl, by rw [h]; exact int_lit2 w' _ hb.size x y, hb.alloc hb.size _⟩

set_option maxRecDepth 100000 in
set_option maxHeartbeats 8000000 in
theorem successors_c (A : Option Addr) (c : Nat) (l : List Cd) (k B ob : Nat) (ga : Nat → Nat) (w : World) (hA : RdC w w.heap.size A l) (hp : pv l = true) (hk : k < l.length) (hB : BK w B l ob ga) :
    Calls Tryz.prog 121 #[.slice A l.length c, .slice (some ⟨ob, 0, none⟩) l.length l.length, .int .i64 k] w (RetS w l k) := by
  have h40 := (pv_iff.1 hp).1
  obtain ⟨b, off, x, rfl, hbB, hx, d0, d1, d2, d3⟩ := hA.at_ hk
  have hcd := cdAt_get hx
  have hop : x.op = opAt l k := (opAt_get hx).symm
  have HI := Lib.hid (succI_succ hk)
  have hkI : (k : Int) < (l.length : Int) := by omega
  have q5 : IntKind.i64.wrap ((k : Int) + 1) = (k : Int) + 1 := IntWalk.i64_in _ (by omega)
  have HX := Lib.hid hx
  clear d1 d2 d3
  by_cases hpl : opB x = false ∧ x.op ≠ 12 ∧ x.op ≠ 14
  · obtain ⟨p1, p2, p3⟩ := hpl
    have p4 : x.op ≠ 11 ∧ x.op ≠ 13 := by simpa [opB] using p1
    have e11 : (x.op == 11) = false := beq_eq_false_iff_ne.2 p4.1
    have e13 : (x.op == 13) = false := beq_eq_false_iff_ne.2 p4.2
    have e12 : (x.op == 12) = false := beq_eq_false_iff_ne.2 p2
    have e14 : (x.op == 14) = false := beq_eq_false_iff_ne.2 p3
    have HS := Lib.hid (show succI l k = [(k : Int) + 1] by rw [HI.out, ← hop, e11, e12, e13, e14]; rfl)
    have o0 := (OR.at0 hB.own).1 k _ (ownRow_none hx p1 p2 p3)
    clear hop hx hcd p1 p2 p3 p4
    go_enter Tryz.func121, Tryz.ntmps121
    go_wp2
    go_ret
    exact RetS.one HS.out (Below.refl _ _)
  · have hop3 : x.op = 11 ∨ x.op = 13 ∨ x.op = 12 ∨ x.op = 14 := by
      simp [opB] at hpl
      omega
    rcases hop3 with h11 | h13 | h12 | h14
    · have e11 : (x.op == 11) = true := beq_iff_eq.2 h11
      have e12 : (x.op == 12) = false := by rw [h11]; rfl
      have hbo : opB x = true := by simp [opB, h11]
      have HS := Lib.hid (show succI l k = if overN l k = k + 1 then [((k : Int) + 1)] else [((k : Int) + 1), (overN l k : Int)] by rw [HI.out, ← hop, h11]; rfl)
      obtain ⟨m1, m2, m3⟩ := pEnd_bound hp hx hbo
      have o0 := (OR.at0 hB.own).1 k _ (ownRow_open' hx hbo)
      have hb := hB.bks k hk (by rw [hcd]; exact hbo)
      have b1 : w.cell? ⟨ga k, 1, none⟩ = some (.int .i64 (elseAt l k)) := cell_of_heap hb 1
      have b2 : w.cell? ⟨ga k, 2, none⟩ = some (.int .i64 (pEnd l k)) := by rw [← m1]; exact cell_of_heap hb 2
      have hov : overN l k = if 0 ≤ elseAt l k then (elseAt l k).toNat + 1 else pEnd l k + 1 := rfl
      have hel2 := elseAt_lt hk
      generalize elseAt l k = eo at *
      generalize pEnd l k = m at *
      obtain ⟨t, ht, htl⟩ : ∃ t : Nat, overN l k = t ∧ t ≤ l.length := ⟨_, rfl, overN_le hp hx hbo⟩
      rw [ht] at HS hov
      have q6 : IntKind.i64.wrap ((m : Int) + 1) = (m : Int) + 1 := IntWalk.i64_in _ (by omega)
      clear hop hx hcd hb m1 h11 hpl ht
      rcases hel2 with rfl | ⟨j, rfl, j1, j2⟩
      · obtain rfl : t = m + 1 := by simpa using hov
        clear hov
        have hne : (((m : Int) + 1) == ((k : Int) + 1)) = false := by rw [beq_eq_false_iff_ne]; omega
        have HS2 := Lib.hid (show succI l k = [((k : Int) + 1), (m : Int) + 1] by rw [HS.out, if_neg (by omega)]; simp)
        clear HS
        go_enter Tryz.func121, Tryz.ntmps121
        go_wp2
        go_ret
        exact RetS.two HS2.out (Below.refl _ _)
      · obtain rfl : t = j + 1 := by simpa using hov
        have q7 : IntKind.i64.wrap ((j : Int) + 1) = (j : Int) + 1 := IntWalk.i64_in _ (by omega)
        have q8 : (0 : Int) ≤ (j : Int) := by omega
        clear hov
        have hne : (((j : Int) + 1) == ((k : Int) + 1)) = false := by rw [beq_eq_false_iff_ne]; omega
        have HS2 := Lib.hid (show succI l k = [((k : Int) + 1), (j : Int) + 1] by rw [HS.out, if_neg (by omega)]; simp)
        clear HS
        go_enter Tryz.func121, Tryz.ntmps121
        go_wp2
        go_ret
        exact RetS.two HS2.out (Below.refl _ _)
    · have e13 : (x.op == 13) = true := beq_iff_eq.2 h13
      have e11 : (x.op == 11) = false := by rw [h13]; rfl
      have e12 : (x.op == 12) = false := by rw [h13]; rfl
      have hbo : opB x = true := by simp [opB, h13]
      have HS := Lib.hid (show succI l k = if overN l k = k + 1 then [((k : Int) + 1)] else [((k : Int) + 1), (overN l k : Int)] by rw [HI.out, ← hop, h13]; rfl)
      obtain ⟨m1, m2, m3⟩ := pEnd_bound hp hx hbo
      have o0 := (OR.at0 hB.own).1 k _ (ownRow_open' hx hbo)
      have hb := hB.bks k hk (by rw [hcd]; exact hbo)
      have b2 : w.cell? ⟨ga k, 2, none⟩ = some (.int .i64 (pEnd l k)) := by rw [← m1]; exact cell_of_heap hb 2
      have hel := loop_elseAt hp hk (by rw [hcd]; exact h13)
      have hov : overN l k = pEnd l k + 1 := by
        unfold overN
        rw [hel]; rfl
      rw [hov] at HS
      generalize pEnd l k = m at *
      have q6 : IntKind.i64.wrap ((m : Int) + 1) = (m : Int) + 1 := IntWalk.i64_in _ (by omega)
      have hne : (((m : Int) + 1) == ((k : Int) + 1)) = false := by rw [beq_eq_false_iff_ne]; omega
      have HS2 := Lib.hid (show succI l k = [((k : Int) + 1), (m : Int) + 1] by rw [HS.out, if_neg (by omega)]; simp)
      clear hop hx hcd hb m1 h13 hpl hel hov HS
      go_enter Tryz.func121, Tryz.ntmps121
      go_wp2
      go_ret
      exact RetS.two HS2.out (Below.refl _ _)
    · have e12 : (x.op == 12) = true := beq_iff_eq.2 h12
      obtain ⟨a1, a2, a3⟩ := around_in hp hx (.inl h12)
      have o0 := (OR.at0 hB.own).1 k _ (ownRow_shut (ga := ga) hx (.inl h12))
      have HS := Lib.hid (show succI l k = [((endN l (aroundN l k) : Int) + 1)] by rw [HI.out, ← hop, h12]; rfl)
      generalize aroundN l k = r at *
      have hr : r < l.length := by omega
      have hxr := cdAt_get' hr
      obtain ⟨m1, m2, m3⟩ := pEnd_bound hp hxr a3
      have hb := hB.bks r hr a3
      have b2 : w.cell? ⟨ga r, 2, none⟩ = some (.int .i64 (pEnd l r)) := by rw [← m1]; exact cell_of_heap hb 2
      have HS2 := Lib.hid (show succI l k = [((pEnd l r : Int) + 1)] from HS.out)
      generalize pEnd l r = m at *
      have q6 : IntKind.i64.wrap ((m : Int) + 1) = (m : Int) + 1 := IntWalk.i64_in _ (by omega)
      clear hop hx hcd hb m1 h12 hpl hxr HS a1
      go_enter Tryz.func121, Tryz.ntmps121
      go_wp2
      go_ret
      exact RetS.one HS2.out (Below.refl _ _)
    · have e14 : (x.op == 14) = true := beq_iff_eq.2 h14
      have e11 : (x.op == 11) = false := by rw [h14]; rfl
      have e12 : (x.op == 12) = false := by rw [h14]; rfl
      have e13 : (x.op == 13) = false := by rw [h14]; rfl
      obtain ⟨a1, a2, a3⟩ := around_in hp hx (.inr h14)
      have o0 := (OR.at0 hB.own).1 k _ (ownRow_shut (ga := ga) hx (.inr h14))
      have HS0 := Lib.hid (show succI l k = (if opAt l (aroundN l k) == 13 then [((aroundN l k : Int) + 1), ((k : Int) + 1)] else [((k : Int) + 1)]) by rw [HI.out, ← hop, h14]; rfl)
      generalize aroundN l k = r at *
      have hr : r < l.length := by omega
      have hxr := cdAt_get' hr
      have hopr := cdAt_op l r
      have hb := hB.bks r hr a3
      have b0 : w.cell? ⟨ga r, 0, none⟩ = some (.int .i64 r) := cell_of_heap hb 0
      generalize cdAt l r = y at *
      obtain ⟨b2, off2, y2, e2, -, hy2, u0, -, -, -⟩ := hA.at_ hr
      injection e2 with e2
      injection e2 with e2 e3
      subst e2 e3
      rw [hxr] at hy2
      injection hy2 with hy2
      subst hy2
      rw [← hopr] at HS0
      have q6 : IntKind.i64.wrap ((r : Int) + 1) = (r : Int) + 1 := IntWalk.i64_in _ (by omega)
      have q7 : (r : Int) < (l.length : Int) := by omega
      have hy3 : y.op = 11 ∨ y.op = 13 := by simpa [opB] using a3
      clear hop hx hcd hb h14 hpl hxr a1 hopr
      rcases hy3 with hy | hy
      · have ey : (y.op == 11) = true := beq_iff_eq.2 hy
        have HS := Lib.hid (show succI l k = [((k : Int) + 1)] by rw [HS0.out, hy]; rfl)
        clear hy a3
        go_enter Tryz.func121, Tryz.ntmps121
        go_wp2
        go_ret
        exact RetS.one HS.out (Below.refl _ _)
      · have ey : (y.op == 11) = false := by rw [hy]; rfl
        have HS := Lib.hid (show succI l k = [((r : Int) + 1), ((k : Int) + 1)] by rw [HS0.out, hy]; rfl)
        clear hy a3
        go_enter Tryz.func121, Tryz.ntmps121
        go_wp2
        go_ret
        exact RetS.two HS.out (Below.refl _ _)

theorem make_rows (n : Nat) (hn : n ≤ 1000000000000) (w : World) :
    (Instr.makeSlice 75 (.int .i64 (n : Int)) (.int .i64 (n : Int))).run Tryz.prog w = .ok (.slice (some ⟨w.heap.size, 0, none⟩) n n) (w.alloc (.cells (zeroRow (.slice none 0 0) n) 23)) := by
  obtain ⟨i0, hi, hz0, hz1, hz2⟩ := info_parts infoRows
  have := run_make_rowN (P := Tryz.prog) 75 23 i0 _ Tryz.underlying75 hi hz0 .i64 .i64 n n (Nat.le_refl _) (by rw [hz2]; omega) (by omega) w
  rw [hz1, Nat.mul_one] at this
  exact this

/-- A graph whose first k rows are there. -/
def GPart (w : World) (base gb : Nat) (l : List Cd) (k : Nat) : Prop :=
  ∃ vs, OR w base 23 1 (some ⟨gb, 0, none⟩) (l.length + 1) (l.length + 1) vs ∧ (∀ j, j < k → ∃ A' c', vs[j]? = some (.slice A' (succI l j).length c') ∧ OI w base A' (succI l j).length c' (succI l j)) ∧ ∀ j, k ≤ j → j ≤ l.length → vs[j]? = some (.slice none 0 0)
theorem GPart.below {w w' : World} {base gb k : Nat} {l : List Cd} (h : GPart w base gb l k) (hb : Below w.heap.size w w') : GPart w' base gb l k := by
  obtain ⟨vs, h1, h2, h3⟩ := h
  refine ⟨vs, h1.below hb (Nat.le_refl _), fun j hj => ?_, h3⟩
  obtain ⟨A', c', e, hr⟩ := h2 j hj
  exact ⟨A', c', e, OR.below hr hb (Nat.le_refl _)⟩
theorem GPart.put {w : World} {base gb k : Nat} {l : List Cd} (h : GPart w base gb l k) (hk : k < l.length) {A' : Option Addr} {c' : Nat} (hr : OI w base A' (succI l k).length c' (succI l k)) : GPart (w.setCell ⟨gb, k, none⟩ (.slice A' (succI l k).length c')) base gb l (k + 1) := by
  obtain ⟨vs, h1, h2, h3⟩ := h
  obtain ⟨cur, hblk⟩ := OR.heap_ h1
  have hl : vs.length = l.length + 1 := by have := h1.len; omega
  refine ⟨_, (OR.at0 h1).2.2 k _, fun j hj => ?_, fun j hj hj2 => ?_⟩
  · by_cases e : j = k
    · subst e
      exact ⟨A', c', by rw [List.getElem?_set, if_pos rfl, if_pos (by omega)], OR.set_other hr (p := ⟨gb, j, none⟩) (own_ne hr hblk (by decide)) _⟩
    · obtain ⟨B', d', e1, e2⟩ := h2 j (by omega)
      exact ⟨B', d', by rw [List.getElem?_set, if_neg (by omega)]; exact e1, OR.set_other e2 (p := ⟨gb, k, none⟩) (own_ne e2 hblk (by decide)) _⟩
  · rw [List.getElem?_set, if_neg (by omega)]
    exact h3 j (by omega) hj2
theorem GPart.done {w : World} {base gb : Nat} {l : List Cd} (h : GPart w base gb l l.length) : GOw w base (some ⟨gb, 0, none⟩) (l.length + 1) (l.length + 1) (succI l) (l.length + 1) := by
  obtain ⟨vs, h1, h2, h3⟩ := h
  refine ⟨vs, h1, fun j hj => ?_⟩
  by_cases e : j = l.length
  · subst e
    refine ⟨none, 0, ?_, ?_⟩
    · rw [succI_end]; exact h3 _ (Nat.le_refl _) (Nat.le_refl _)
    · rw [succI_end]; exact OI.nil_ _ _
  · exact h2 j (by omega)

def IGRel (w : World) (l : List Cd) (gb : Nat) (kv : Value) (wr : World) : Prop :=
  ∃ k : Nat, k ≤ l.length ∧ kv = .int .i64 k ∧ GPart wr w.heap.size gb l k ∧ Below w.heap.size w wr ∧ gb < wr.heap.size

set_option maxRecDepth 100000 in
set_option maxHeartbeats 8000000 in
theorem iGraphOf_c (A : Option Addr) (c : Nat) (l : List Cd) (w : World) (hA : RdC w w.heap.size A l) (hp : pv l = true) :
    Calls Tryz.prog 98 #[.slice A l.length c] w (RetG w l) := by
  have h40 := (pv_iff.1 hp).1
  have HP := Lib.hid hp
  have hmk : ∀ w : World, (Instr.makeSlice 75 (.int .i64 ((l.length : Int) + 1)) (.int .i64 ((l.length : Int) + 1))).run Tryz.prog w = .ok (.slice (some ⟨w.heap.size, 0, none⟩) (l.length + 1) (l.length + 1)) (w.alloc (.cells (zeroRow (.slice none 0 0) (l.length + 1)) 23)) := by
    have := make_rows (l.length + 1) (by omega)
    simpa using this
  clear hp
  go_enter Tryz.func98, Tryz.ntmps98
  go_wp2_with fail
  refine (blocks_c A c l w hA (by omega) (pv_all HP.out)).mono ?_
  rintro e w1 ⟨hb1, hcase⟩
  rcases hcase with ⟨_, rfl, ga, oth, en, As, cs, hW, hP⟩ | ⟨hp2, _⟩
  case inr => exact absurd (pv_iff.1 HP.out).2 hp2
  have hBK := BK.of hW hP
  have hs1 := hb1.size
  clear hW hP
  go_wp2_with fail
  have hG0 : GPart (w1.alloc (.cells (zeroRow (.slice none 0 0) (l.length + 1)) 23)) w.heap.size w1.heap.size l 0 := by
    have h := OR.lit w1 w.heap.size 23 1 (l.length + 1) (zeroRow (.slice none 0 0) (l.length + 1)) hs1 (by omega) (by rw [zeroRow_size]; omega)
    have e : (zeroRow (.slice none 0 0) (l.length + 1)).toList = List.replicate (l.length + 1) (.slice none 0 0) := toList_madeCells_one _ _
    rw [e] at h
    exact ⟨_, h, fun j hj => by omega, fun j _ hj => by rw [List.getElem?_replicate, if_pos (by omega)]⟩
  have hb2 := hb1.alloc hs1 (.cells (zeroRow (.slice none 0 0) (l.length + 1)) 23)
  have hX2 := Ext.alloc w1 (.cells (zeroRow (.slice none 0 0) (l.length + 1)) 23)
  have hBK2 := hBK.below hX2.below
  have hgb : w1.heap.size < (w1.alloc (.cells (zeroRow (.slice none 0 0) (l.length + 1)) 23)).heap.size := by simp
  clear hmk hBK hX2
  generalize w1.alloc (.cells (zeroRow (.slice none 0 0) (l.length + 1)) 23) = w2 at *
  have HBK := Lib.hid hBK2
  generalize w1.heap.size = gb at *
  clear hBK2
  go_loopw [20] (fun kv wr => IGRel w l gb kv wr ∧ BK wr w.heap.size l (w.heap.size + 1) ga) (fun kv _ => l.length - (intOf kv).toNat)
  case atStart => exact ⟨⟨0, Nat.zero_le _, rfl, hG0, hb2, hgb⟩, HBK.out⟩
  case round =>
    clear hG0 hb2 hgb
    obtain ⟨⟨k, hk, rfl, hG, hb, hgb⟩, hBK⟩ := hrel
    have hs := hb.size
    by_cases hlt : k < l.length
    · have hkI : (k : Int) < ((l.length + 1 : Nat) : Int) := by omega
      go_wp2_with fail
      refine (successors_c A c l k w.heap.size (w.heap.size + 1) ga wr ((hA.below hb).more hs) HP.out hlt hBK).mono ?_
      rintro e w3 ⟨A3, c3, rfl, ho3, hb3⟩
      have hG3 := hG.below hb3
      have hbW3 := below_trans hb (Nat.le_refl _) hb3
      have hBK3 := hBK.below hb3
      have HPUT := Lib.hid (hG3.put hlt (OR.mono ho3 hs))
      obtain ⟨vs, g1, g2, g3⟩ := hG3
      obtain ⟨cur, hblk⟩ := OR.heap_ g1
      have hgB := (OR.base_le g1).1
      have hBK4 : ∀ u, BK (w3.setCell ⟨gb, k, none⟩ u) w.heap.size l (w.heap.size + 1) ga := fun u =>
        ⟨OR.set_other hBK3.own (p := ⟨gb, k, none⟩) (own_ne hBK3.own hblk (by decide)) u, fun p hp ho => by
          have := hBK3.bks p hp ho
          rw [heap_set_other (type_ne this hblk (by decide))]
          exact this⟩
      have HBK4 := Lib.hid hBK4
      have cS := (OR.at0 g1).1 k _ (g3 k (Nat.le_refl _) (by omega))
      have f1 := (OR.at0 g1).2.1 k
      have hgb3 : gb < w3.heap.size := (OR.base_le g1).2
      clear g1 g2 g3 hblk hBK3 hBK4 hG hBK
      go_wp2
      go_roundw
      case rel => exact ⟨⟨k + 1, by omega, by go_num, HPUT.out, hbW3.setCell hgB _, by rw [size_set]; exact hgb3⟩, HBK4.out _⟩
      case measure => simp [intOf]; omega
    · obtain rfl : k = l.length := by omega
      go_wp2
      go_ret
      exact ⟨_, _, rfl, hG.done, hb⟩

end Go.Proofs.YtakeacndmnnbmaaGreat
