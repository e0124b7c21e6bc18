/- Part 20 of what the claim needs. -/
import Derived.Test.YtelbfeidpcojmaaRg2
import Derived.Test.YtelbfeidpcojmaaRg19
import Derived.Deep.RegionHeld3
namespace Go.Proofs.Ytelbfeidpcojmaa
open Go.RowKit
set_option linter.unusedVariables false
set_option linter.unusedSimpArgs false

set_option maxRecDepth 100000 in
theorem szIntS_c (A : Option Addr) (n c : Nat) (left : Int) (w : World) (hn : n ≤ 9223372036854775807) (h1 : 0 ≤ left) (h2 : left ≤ 100000000) :
    Calls Try.prog 54 #[.slice A n c, .int .i64 left] w fun e w' => e = .returned (.int .i64 (if left - n < 0 then -1 else left - n)) ∧ w = w' := by
  by_cases h : left - n < 0
  all_goals
    go_enter Try.func54, Try.ntmps54
    go_wp2
    go_ret
    exact ⟨reti (by simp [h]), rfl⟩

def lenSumI (ps : List (List Int)) : Nat := (ps.map List.length).sum
theorem lenSumI_take (ps : List (List Int)) {i : Nat} (h : i < ps.length) : lenSumI (ps.take (i + 1)) = lenSumI (ps.take i) + (ps.getD i []).length := by
  unfold lenSumI
  rw [List.take_succ_eq_append_getElem h, List.map_append, List.sum_append]
  have e : ps.getD i [] = ps[i] := by simp [List.getD_eq_getElem?_getD, h]
  rw [e]; simp
theorem lenSumI_le (ps : List (List Int)) : ∀ i, i ≤ ps.length → lenSumI (ps.take i) ≤ lenSumI ps := by
  intro i hi
  have : lenSumI ps = lenSumI (ps.take i) + lenSumI (ps.drop i) := by
    unfold lenSumI
    rw [← List.sum_append, ← List.map_append, List.take_append_drop]
  omega
theorem lenSumI_get (ps : List (List Int)) {i : Nat} (h : i < ps.length) : (ps.getD i []).length ≤ lenSumI ps := by
  have h1 := lenSumI_take ps h
  have h2 := lenSumI_le ps (i + 1) (by omega)
  omega

set_option maxRecDepth 100000 in
set_option maxHeartbeats 4000000 in
theorem szIntSS_c {As : Nat → Option Addr} {cs : Nat → Nat} (P : Option Addr) (pc L : Nat) (hL : L ≤ 1048576) (ps : List (List Int)) (w : World) (hP : RdO w w.heap.size P As cs ps) (hl : ps.length ≤ 9223372036854775807) (hls : ∀ i, i < ps.length → (ps.getD i []).length ≤ 9223372036854775807) :
    Calls Try.prog 18 #[.slice P ps.length pc, .int .i64 (L : Int)] w fun e w' => ∃ r : Int, e = .returned (.int .i64 r) ∧ -1 ≤ r ∧ r ≤ 1048576 ∧ (0 ≤ r → ps.length + lenSumI ps ≤ 1048576) ∧ w = w' := by
  by_cases hbig : L < ps.length
  · have hq1 : IntKind.i64.wrap ((L : Int) - (ps.length : Int)) = (L : Int) - (ps.length : Int) := IntWalk.i64_in _ (by omega)
    go_enter Try.func18, Try.ntmps18
    go_wp2
    go_ret
    exact ⟨-1, rfl, by omega, by omega, fun h => absurd h (by omega), rfl⟩
  · have hq1 : IntKind.i64.wrap ((L : Int) - (ps.length : Int)) = ((L - ps.length : Nat) : Int) := by rw [IntWalk.i64_in _ (by omega)]; omega
    have HLS := Lib.hid hls
    clear hls
    go_enter Try.func18, Try.ntmps18
    go_wp2
    go_loopw [1, 5] (fun lv kv wr => ∃ (i r : Nat), i ≤ ps.length ∧ kv = .int .i64 i ∧ lv = .int .i64 r ∧ r ≤ 1048576 ∧ Hid (r + (ps.length + lenSumI (ps.take i)) = L) ∧ w = wr) (fun _ kv _ => ps.length - (intOf kv).toNat)
    case atStart => exact ⟨0, L - ps.length, Nat.zero_le _, rfl, rfl, by omega, Lib.hid (by simp [lenSumI]; omega), rfl⟩
    case round =>
      obtain ⟨i, r, hi, rfl, rfl, hr, HR, rfl⟩ := hrel
      by_cases hlt : i < ps.length
      · have hiI : (i : Int) < (ps.length : Int) := by omega
        obtain ⟨pb, po, rfl, hpB, p0⟩ := hP.at_ hlt
        have hpl := HLS.out i hlt
        have HT := Lib.hid (lenSumI_take ps hlt)
        generalize (ps.getD i []).length = pl at *
        by_cases hneg : (r : Int) - (pl : Int) < 0
        · have HI := Lib.hid (show (if (r : Int) - (pl : Int) < 0 then (-1 : Int) else (r : Int) - (pl : Int)) = -1 from if_pos hneg)
          clear hneg
          go_wp2_with fail
          refine (szIntS_c (As i) pl (cs i) r w hpl (by omega) (by omega)).mono ?_
          rintro e w1 ⟨rfl, rfl⟩
          rw [HI.out]
          go_wp2
          go_ret
          exact ⟨-1, rfl, by omega, by omega, fun h => absurd h (by omega), rfl⟩
        · have HI := Lib.hid (show (if (r : Int) - (pl : Int) < 0 then (-1 : Int) else (r : Int) - (pl : Int)) = ((r - pl : Nat) : Int) by rw [if_neg hneg]; omega)
          have hle : pl ≤ r := by omega
          clear hneg
          go_wp2_with fail
          refine (szIntS_c (As i) pl (cs i) r w hpl (by omega) (by omega)).mono ?_
          rintro e w1 ⟨rfl, rfl⟩
          rw [HI.out]
          have hr2 : r - pl ≤ 1048576 := by omega
          have HR2 := Lib.hid (show r - pl + (ps.length + lenSumI (ps.take (i + 1))) = L by rw [HT.out]; have := HR.out; omega)
          obtain ⟨r2, hr2e⟩ : ∃ r2, r - pl = r2 := ⟨_, rfl⟩
          rw [hr2e] at hr2 HR2 ⊢
          clear hr2e hle HI HR
          go_wp2
          go_roundw
          case rel => exact ⟨i + 1, r2, by omega, by go_num, rfl, hr2, HR2, by first | rfl | exact trivial⟩
          case measure => simp [intOf]; omega
      · obtain rfl : i = ps.length := by omega
        have hsum := HR.out
        rw [List.take_length] at hsum
        have HS := Lib.hid hsum
        clear hsum HR
        go_wp2
        go_ret
        exact ⟨r, rfl, by omega, by omega, fun _ => by have := HS.out; omega, rfl⟩

/-- Programs in the course of being copied: the first k of them are there. -/
structure IPart (w : World) (base pb : Nat) (ps : List (List Int)) (As : Nat → Option Addr) (cs bs : Nat → Nat) (vs : List Value) (k : Nat) : Prop where
  own : OR w base 23 1 (some ⟨pb, 0, none⟩) ps.length ps.length vs
  row : ∀ j, j < k → vs[j]? = some (.slice (As j) (ps.getD j []).length (cs j)) ∧ OI w (bs j) (As j) (ps.getD j []).length (cs j) (ps.getD j []) ∧ pb < bs j ∧ bs j ≤ bs (j + 1) ∧ ∀ q, Value.ownBlock (.slice (As j) (ps.getD j []).length (cs j)) = some q → q < bs (j + 1)
  rest : ∀ j, k ≤ j → j < ps.length → vs[j]? = some (.slice none 0 0)
theorem IPart.below {w w' : World} {base pb k : Nat} {ps : List (List Int)} {As : Nat → Option Addr} {cs bs : Nat → Nat} {vs : List Value} (h : IPart w base pb ps As cs bs vs k) (hb : Below w.heap.size w w') : IPart w' base pb ps As cs bs vs k :=
  ⟨h.own.below hb (Nat.le_refl _), fun j hj => by
    obtain ⟨h1, h2, h3⟩ := h.row j hj
    exact ⟨h1, OR.below h2 hb (Nat.le_refl _), h3⟩, h.rest⟩
theorem IPart.put {w : World} {base pb k : Nat} {ps : List (List Int)} {As : Nat → Option Addr} {cs bs : Nat → Nat} {vs : List Value} (h : IPart w base pb ps As cs bs vs k) (hk : k < ps.length) {A' : Option Addr} {c' nb : Nat} (hr : OI w (bs k) A' (ps.getD k []).length c' (ps.getD k [])) (hpb : pb < bs k) (hnb : bs k ≤ nb)
    (hq : ∀ q, Value.ownBlock (.slice A' (ps.getD k []).length c') = some q → q < nb) :
    ∃ vs', IPart (w.setCell ⟨pb, k, none⟩ (.slice A' (ps.getD k []).length c')) base pb ps (fun j => if j = k then A' else As j) (fun j => if j = k then c' else cs j) (fun j => if j = k + 1 then nb else bs j) vs' (k + 1) := by
  obtain ⟨cur, hblk⟩ := OR.heap_ h.own
  have hl : vs.length = ps.length := by have := h.own.len; omega
  refine ⟨_, (OR.at0 h.own).2.2 k _, fun j hj => ?_, fun j hj hj2 => ?_⟩
  · by_cases e : j = k
    · subst e
      have e1 : ¬ j = j + 1 := by omega
      simp only [if_true, e1, if_false]
      exact ⟨by rw [List.getElem?_set, if_pos rfl, if_pos (by omega)], OR.set_other hr (p := ⟨pb, j, none⟩) (own_ne hr hblk (by decide)) _, hpb, hnb, hq⟩
    · obtain ⟨e1, e2, e3, e4, e5⟩ := h.row j (by omega)
      have n1 : ¬ j = k + 1 := by omega
      have n2 : ¬ j + 1 = k + 1 := by omega
      simp only [e, n1, n2, if_false]
      exact ⟨by rw [List.getElem?_set, if_neg (by omega)]; exact e1, OR.set_other e2 (p := ⟨pb, k, none⟩) (own_ne e2 hblk (by decide)) _, e3, e4, e5⟩
  · rw [List.getElem?_set, if_neg (by omega)]
    exact h.rest j (by omega) hj2

/-- Own programs: a row of its own, and rows of their own, one behind the other. -/
structure OwR (w : World) (lo hi pb : Nat) (As : Nat → Option Addr) (cs bs : Nat → Nat) (ps : List (List Int)) : Prop where
  own : OR w lo 23 1 (some ⟨pb, 0, none⟩) ps.length ps.length (intsV As cs ps)
  row : ∀ j, j < ps.length → OI w (bs j) (As j) (ps.getD j []).length (cs j) (ps.getD j []) ∧ pb < bs j ∧ bs j ≤ bs (j + 1) ∧ ∀ q, Value.ownBlock (.slice (As j) (ps.getD j []).length (cs j)) = some q → q < bs (j + 1)
  top : ∀ j, j ≤ ps.length → bs j ≤ hi
  pbh : pb < hi
theorem IPart.done {w : World} {base pb hi : Nat} {ps : List (List Int)} {As : Nat → Option Addr} {cs bs : Nat → Nat} {vs : List Value} (h : IPart w base pb ps As cs bs vs ps.length) (hh : ∀ j, j ≤ ps.length → bs j ≤ hi) (hp : pb < hi) : OwR w base hi pb As cs bs ps := by
  have hl : vs.length = ps.length := by have := h.own.len; omega
  have e : vs = intsV As cs ps := by
    apply List.ext_getElem?
    intro j
    by_cases hj : j < ps.length
    · rw [(h.row j hj).1, intsV_get hj]
    · rw [List.getElem?_eq_none (by omega), List.getElem?_eq_none (by simp [intsV]; omega)]
  subst e
  exact ⟨h.own, fun j hj => (h.row j hj).2, hh, hp⟩
theorem OwR.rd {w : World} {lo hi pb : Nat} {As : Nat → Option Addr} {cs bs : Nat → Nat} {ps : List (List Int)} (h : OwR w lo hi pb As cs bs ps) : RdO w w.heap.size (some ⟨pb, 0, none⟩) As cs ps := ⟨OR.reads h.own, fun i hi => OR.reads (h.row i hi).1⟩
theorem OwR.below {w w' : World} {lo hi pb : Nat} {As : Nat → Option Addr} {cs bs : Nat → Nat} {ps : List (List Int)} (h : OwR w lo hi pb As cs bs ps) (hb : Below w.heap.size w w') : OwR w' lo hi pb As cs bs ps :=
  ⟨h.own.below hb (Nat.le_refl _), fun j hj => by
    obtain ⟨h1, h2⟩ := h.row j hj
    exact ⟨OR.below h1 hb (Nat.le_refl _), h2⟩, h.top, h.pbh⟩

theorem make_rows2 (n : Nat) (hn : n ≤ 1000000000000) (w : World) :
    (Instr.makeSlice 34 (.int .i64 (n : Int)) (.int .i64 (n : Int))).run Try.prog w = .ok (.slice (some ⟨w.heap.size, 0, none⟩) n n) (w.alloc (.cells (zeroRow (.slice none 0 0) n) 23)) := by
  obtain ⟨i0, hi, hz0, hz1, hz2⟩ := info_parts infoRows
  have := run_make_rowN (P := Try.prog) 34 23 i0 _ Try.underlying34 hi hz0 .i64 .i64 n n (Nat.le_refl _) (by rw [hz2]; omega) (by omega) w
  rw [hz1, Nat.mul_one] at this
  exact this

def TIRel (w : World) (ps : List (List Int)) (kv : Value) (wr : World) : Prop :=
  ∃ (k : Nat) (As : Nat → Option Addr) (cs bs : Nat → Nat) (vs : List Value), k ≤ ps.length ∧ kv = .int .i64 k ∧ IPart wr w.heap.size w.heap.size ps As cs bs vs k ∧ bs k = wr.heap.size ∧ (∀ j, j ≤ k → bs j ≤ wr.heap.size) ∧ Below w.heap.size w wr ∧ w.heap.size < wr.heap.size

set_option maxRecDepth 100000 in
set_option maxHeartbeats 4000000 in
theorem toIntSS_c {As0 : Nat → Option Addr} {cs0 : Nat → Nat} (P : Option Addr) (pc : Nat) (ps : List (List Int)) (w : World) (hP : RdO w w.heap.size P As0 cs0 ps) (hl : ps.length ≤ 1048576) (hls : ∀ i, i < ps.length → (ps.getD i []).length ≤ 1048576) :
    Calls Try.prog 20 #[.slice P ps.length pc] w fun e w' => ∃ (As : Nat → Option Addr) (cs bs : Nat → Nat), e = .returned (.slice (some ⟨w.heap.size, 0, none⟩) ps.length ps.length) ∧ OwR w' w.heap.size w'.heap.size w.heap.size As cs bs ps ∧ Below w.heap.size w w' := by
  have hmk := make_rows2 ps.length (by omega)
  have HLS := Lib.hid hls
  clear hls
  go_enter Try.func20, Try.ntmps20
  go_wp2
  have hz := zeroRow_size (.slice none 0 0) ps.length
  have ho := OR.lit w w.heap.size 23 1 ps.length (zeroRow (.slice none 0 0) ps.length) (Nat.le_refl _) (by omega) (by rw [hz]; omega)
  have e : (zeroRow (.slice none 0 0) ps.length).toList = List.replicate ps.length (.slice none 0 0) := toList_madeCells_one _ _
  rw [e] at ho
  have hb0 : Below w.heap.size w (w.alloc (.cells (zeroRow (.slice none 0 0) ps.length) 23)) := (by repeat (first | exact Below.refl _ _ | assumption | refine Below.alloc ?_ (by simp <;> omega) _ | refine Below.setCell ?_ (by simp <;> omega) _ | refine Below.drew ?_))
  have hs0 : w.heap.size < (w.alloc (.cells (zeroRow (.slice none 0 0) ps.length) 23)).heap.size := by simp
  have hP0 : IPart (w.alloc (.cells (zeroRow (.slice none 0 0) ps.length) 23)) w.heap.size w.heap.size ps (fun _ => none) (fun _ => 0) (fun _ => (w.alloc (.cells (zeroRow (.slice none 0 0) ps.length) 23)).heap.size) (List.replicate ps.length (.slice none 0 0)) 0 :=
    ⟨ho, fun j hj => by omega, fun j _ hj => by rw [List.getElem?_replicate, if_pos hj]⟩
  clear hmk hz ho e
  generalize w.alloc (.cells (zeroRow (.slice none 0 0) ps.length) 23) = w1 at *
  go_loopw [4] (fun kv wr => TIRel w ps kv wr) (fun kv _ => ps.length - (intOf kv).toNat)
  case atStart => exact ⟨0, _, _, _, _, Nat.zero_le _, rfl, hP0, rfl, fun j _ => Nat.le_refl _, hb0, hs0⟩
  case round =>
    clear hP0 hb0 hs0
    obtain ⟨k, As, cs, bs, vs, hk, rfl, hPP, hbk, hbs, hb, hs⟩ := hrel
    have HBK := Lib.hid hbk
    have HBS := Lib.hid hbs
    clear hbk hbs
    by_cases hlt : k < ps.length
    · have hkI : (k : Int) < (ps.length : Int) := by omega
      have hPr := (hP.below hb).more hb.size
      obtain ⟨qb, qo, rfl, hqB, p0⟩ := hPr.at_ hlt
      have hin := hPr.inn k hlt
      have hpl := HLS.out k hlt
      have HPP := Lib.hid hPP
      clear hPP hPr
      generalize hp : ps.getD k [] = p at *
      have HPE := Lib.hid hp
      clear hp
      go_wp2_with fail
      refine (toIntS_c (As0 k) (cs0 k) p wr hin (by omega)).mono ?_
      rintro e w2 ⟨A', rfl, ho2, hb2⟩
      have hP2 := HPP.out.below hb2
      obtain ⟨cur, hblk⟩ := OR.heap_ hP2.own
      have f0 := free_of_heap hblk k
      have hthere := (OR.at0 hP2.own).1
      have hb3 := below_trans hb (Nat.le_refl _) hb2
      have hs2 := hb2.size
      have hput0 := hP2.put hlt (A' := A') (c' := p.length) (nb := w2.heap.size) (by rw [HBK.out, HPE.out]; exact ho2) (by rw [HBK.out]; exact hs) (by rw [HBK.out]; exact hs2) (fun q hq => by rw [HPE.out] at hq; exact (OR.block ho2 q hq).2)
      rw [HPE.out] at hput0
      have hput := Lib.hid hput0
      clear hput0
      have hc0 : ∃ u, w2.cell? ⟨w.heap.size, k, none⟩ = some u := OR.some_cell hP2.own k (by omega)
      obtain ⟨u0, hu0⟩ := hc0
      clear hthere ho2 hP2 hblk HPP
      go_wp2
      obtain ⟨vs', hP4⟩ := hput.out
      have hb4 : Below w.heap.size w (w2.setCell ⟨w.heap.size, k, none⟩ (.slice A' p.length p.length)) := hb3.setCell (Nat.le_refl _) _
      have hsz : (w2.setCell ⟨w.heap.size, k, none⟩ (.slice A' p.length p.length)).heap.size = w2.heap.size := size_set _ _ _
      refine ⟨⟨k + 1, _, _, _, vs', by omega, by go_num, hP4, by rw [hsz, if_pos rfl], fun j hj => ?_, hb4, by rw [hsz]; omega⟩, ?_⟩
      · rw [hsz]
        by_cases e : j = k + 1
        · rw [if_pos e]; exact Nat.le_refl _
        · rw [if_neg e]; have := HBS.out j (by omega); omega
      · simp [intOf]; omega
    · obtain rfl : k = ps.length := by omega
      have hD := Lib.hid (hPP.done (hi := wr.heap.size) HBS.out hs)
      clear hPP
      go_wp2
      go_ret
      exact ⟨As, cs, bs, rfl, hD.out, hb⟩

set_option maxRecDepth 100000 in
set_option maxHeartbeats 4000000 in
theorem eqIntSS_c {As As2 : Nat → Option Addr} {cs cs2 : Nat → Nat} (P P2 : Option Addr) (pc pc2 : Nat) (ps : List (List Int)) (w : World) (hP : RdO w w.heap.size P As cs ps) (hP2 : RdO w w.heap.size P2 As2 cs2 ps) (hl : ps.length ≤ 1048576) (hls : ∀ i, i < ps.length → (ps.getD i []).length ≤ 1048576) :
    Calls Try.prog 22 #[.slice P ps.length pc, .slice P2 ps.length pc2] w fun e w' => e = .returned (.bool true) ∧ Below w.heap.size w w' := by
  have HLS := Lib.hid hls
  clear hls
  go_enter Try.func22, Try.ntmps22
  go_wp2
  go_loopw [5] (fun kv wr => ∃ k : Nat, k ≤ ps.length ∧ kv = .int .i64 k ∧ Below w.heap.size w wr) (fun kv _ => ps.length - (intOf kv).toNat)
  case atStart => exact ⟨0, Nat.zero_le _, rfl, Below.refl _ _⟩
  case round =>
    obtain ⟨k, hk, rfl, hb⟩ := hrel
    by_cases hlt : k < ps.length
    · have hkI : (k : Int) < (ps.length : Int) := by omega
      have hPr := (hP.below hb).more hb.size
      have hPr2 := (hP2.below hb).more hb.size
      obtain ⟨qb, qo, rfl, hqB, p0⟩ := hPr.at_ hlt
      obtain ⟨qb2, qo2, rfl, hqB2, p2⟩ := hPr2.at_ hlt
      have hin := hPr.inn k hlt
      have hin2 := hPr2.inn k hlt
      have hpl := HLS.out k hlt
      generalize ps.getD k [] = p at *
      clear hPr hPr2
      go_wp2_with fail
      go_still_tail 8, (by kernel_rfl)
      go_wp2_with fail
      refine (eqIntS_c (As k) (As2 k) (cs k) (cs2 k) p p wr.drew hin hin2 (by omega) (by omega)).mono ?_
      rintro e w2 ⟨rfl, hb2⟩
      rw [intsEq_refl]
      have hb3 := below_trans hb.drew (Nat.le_refl _) hb2
      go_wp2
      go_roundw
      case rel => exact ⟨k + 1, by omega, by go_num, hb3⟩
      case measure => simp [intOf]; omega
    · go_wp2
      go_ret
      exact ⟨rfl, hb⟩


/-! ### slices.Equal -/
set_option maxRecDepth 100000 in
set_option maxHeartbeats 2000000 in
theorem sliceEqual_c (A A2 : Option Addr) (c c2 : Nat) (l m : List Int) (w : World) (hA : RdI w w.heap.size A l) (hA2 : RdI w w.heap.size A2 m) (hl : l.length ≤ 1000000000000) (hm : m.length ≤ 1000000000000) :
    Calls Try.prog 59 #[.slice A l.length c, .slice A2 m.length c2] w fun e w' => e = .returned (.bool (intsEq l m)) ∧ Below w.heap.size w w' := by
  by_cases hlen : l.length = m.length
  · rw [← hlen]
    have HL := Lib.hid hlen
    clear hlen
    go_enter Try.func59, Try.ntmps59
    go_wp2
    go_loopw [13] (fun i wr => ∃ k : Nat, k ≤ l.length ∧ i = .int .i64 k ∧ Hid (intsEq l m = intsEq (l.drop k) (m.drop k)) ∧ Below w.heap.size w wr) (fun i _ => l.length - (intOf i).toNat)
    case atStart => exact ⟨0, Nat.zero_le _, rfl, Lib.hid rfl, Below.refl _ _⟩
    case round =>
      obtain ⟨k, hk, rfl, HE, hb⟩ := hrel
      by_cases hlt : k < l.length
      · obtain ⟨b, off, x, rfl, hbB, hx, c0⟩ := (hA.below hb).at_ hlt
        obtain ⟨b2, off2, y, rfl, hbB2, hy, d0⟩ := (hA2.below hb).at_ (by have := HL.out; omega : k < m.length)
        have HX := Lib.hid hx
        have HY := Lib.hid hy
        clear hx hy
        cases he : x == y with
        | false =>
          have hn : (x != y) = true := by simp [bne, he]
          have HN := Lib.hid he
          clear he
          go_wp2_with fail
          go_quiet (fail)
          go_wp2
          go_ret
          exact ⟨retb (by rw [HE.out, intsEq_step HX.out HY.out, HN.out]; rfl), hb.trans ⟨rfl, rfl, rfl, Nat.le_refl _, fun _ _ => rfl⟩⟩
        | true =>
          have hn : (x != y) = false := by simp [bne, he]
          have HN := Lib.hid he
          clear he
          go_wp2_with fail
          go_quiet (fail)
          go_wp2
          go_roundw
          case rel => exact ⟨k + 1, by omega, by go_num, Lib.hid (by rw [HE.out, intsEq_step HX.out HY.out, HN.out]; rfl), hb.trans ⟨rfl, rfl, rfl, Nat.le_refl _, fun _ _ => rfl⟩⟩
          case measure => simp [intOf]; omega
      · go_wp2
        go_ret
        refine ⟨retb ?_, hb⟩
        obtain rfl : k = l.length := by omega
        rw [HE.out, List.drop_length, List.drop_of_length_le (by have := HL.out; omega)]
        rfl
  · have hne : ((l.length : Int) != (m.length : Int)) = true := by rw [bne_iff_ne]; omega
    go_enter Try.func59, Try.ntmps59
    go_wp2
    go_ret
    exact ⟨retb (intsEq_len l m hlen).symm, (by repeat (first | exact Below.refl _ _ | assumption | refine Below.alloc ?_ (by simp <;> omega) _ | refine Below.setCell ?_ (by simp <;> omega) _ | refine Below.drew ?_))⟩

/-! ### The orders are valid -/
set_option maxRecDepth 100000 in
set_option maxHeartbeats 2000000 in
theorem smF1_c (O : Option Addr) (oc : Nat) (o : List Int) (n : Int) (b : Nat) (w : World) (hO : RdI w w.heap.size O o) (hol : o.length ≤ 1000000000) (hb : w.cell? ⟨b, 0, none⟩ = some (.int .i64 n)) :
    Calls Try.prog 56 #[.slice O o.length oc, .pointer (some ⟨b, 0, none⟩)] w fun e w' => e = .returned (.bool (!ordOk o n)) ∧ Below w.heap.size w w' := by
  go_enter Try.func56, Try.ntmps56
  go_wp2_with fail
  refine (iOrderValid_c O oc o n w hO hol).mono ?_
  rintro e w1 ⟨rfl, hx⟩
  have hb := hx.below
  go_wp2
  go_ret
  exact ⟨rfl, hb⟩

theorem row_hit {g : List Int → Bool} {os : List (List Int)} {k : Nat} (hk : k < os.length) (h : g (os.getD k []) = true) : os.any g = true := List.any_eq_true.2 ⟨_, List.mem_of_getElem? (rowD hk), h⟩
theorem row_take {g : List Int → Bool} {os : List (List Int)} {k : Nat} (hk : k < os.length) (h : (os.take k).any g = false) : (os.take (k + 1)).any g = g (os.getD k []) := by
  have e : os.getD k [] = os[k] := by simp [List.getD_eq_getElem?_getD, hk]
  rw [List.take_succ_eq_append_getElem hk, List.any_append, h, e]
  simp

set_option maxRecDepth 100000 in
set_option maxHeartbeats 2000000 in
theorem smIndex1_c {As : Nat → Option Addr} {cs : Nat → Nat} (P : Option Addr) (pc : Nat) (os : List (List Int)) (n : Int) (b : Nat) (w : World) (hP : RdO w w.heap.size P As cs os) (hol : os.length ≤ 1000000000) (hos : ∀ i, i < os.length → (os.getD i []).length ≤ 1000000000) (hb : w.cell? ⟨b, 0, none⟩ = some (.int .i64 n)) (g : List Int → Bool) (hgd : g = fun o => !ordOk o n) :
    Calls Try.prog 96 #[.slice P os.length pc, .func (Fn.func 56) #[] #[.pointer (some ⟨b, 0, none⟩)]] w fun e w' => ∃ i : Int, e = .returned (.int .i64 i) ∧ decide (0 ≤ i) = os.any g ∧ Below w.heap.size w w' := by
  have HGD := Lib.hid (fun o => show g o = !ordOk o n by rw [hgd])
  have HOS := Lib.hid hos
  clear hgd hos
  go_enter Try.func96, Try.ntmps96
  go_wp2
  go_loopw [8] (fun kv wr => ∃ k : Nat, k ≤ os.length ∧ kv = .int .i64 k ∧ Hid ((os.take k).any g = false) ∧ Below w.heap.size w wr) (fun kv _ => os.length - (intOf kv).toNat)
  case atStart => exact ⟨0, Nat.zero_le _, rfl, Lib.hid (by simp), Below.refl _ _⟩
  case round =>
    obtain ⟨k, hk, rfl, HN, hbw⟩ := hrel
    by_cases hlt : k < os.length
    · have hPr := (hP.below hbw).more hbw.size
      obtain ⟨pb, po, rfl, hpB, p0⟩ := hPr.at_ hlt
      have hin := hPr.inn k hlt
      have hpl := HOS.out k hlt
      have hbr := cell_kept hbw hb
      have HH := Lib.hid (fun h => row_hit (g := g) hlt h)
      have HT := Lib.hid (row_take hlt HN.out)
      have hkI : (k : Int) < (os.length : Int) := by omega
      clear hPr
      generalize os.getD k [] = o at *
      go_wp2_with fail
      refine (smF1_c (As k) (cs k) o n b wr hin hpl hbr).mono ?_
      rintro e w1 ⟨rfl, b1⟩
      have hb2 := below_trans hbw (Nat.le_refl _) b1
      rw [← HGD.out o]
      cases hgx : g o with
      | true =>
        have HG := Lib.hid (HH.out hgx)
        clear hgx
        go_wp2
        go_ret
        exact ⟨k, rfl, by rw [HG.out]; simp, hb2⟩
      | false =>
        have HG := Lib.hid (HT.out.trans hgx)
        clear hgx
        go_wp2
        go_roundw
        case rel => exact ⟨k + 1, by omega, by go_num, HG, hb2⟩
        case measure => simp [intOf]; omega
    · obtain rfl : k = os.length := by omega
      have HN2 := Lib.hid (show os.any g = false by have := HN.out; rwa [List.take_length] at this)
      go_wp2
      go_ret
      exact ⟨-1, rfl, by rw [HN2.out]; simp, hbw⟩

set_option maxRecDepth 100000 in
set_option maxHeartbeats 2000000 in
theorem smContains1_c {As : Nat → Option Addr} {cs : Nat → Nat} (P : Option Addr) (pc : Nat) (os : List (List Int)) (n : Int) (b : Nat) (w : World) (hP : RdO w w.heap.size P As cs os) (hol : os.length ≤ 1000000000) (hos : ∀ i, i < os.length → (os.getD i []).length ≤ 1000000000) (hb : w.cell? ⟨b, 0, none⟩ = some (.int .i64 n)) :
    Calls Try.prog 55 #[.slice P os.length pc, .func (Fn.func 56) #[] #[.pointer (some ⟨b, 0, none⟩)]] w fun e w' => e = .returned (.bool (!os.all fun o => ordOk o n)) ∧ Below w.heap.size w w' := by
  have HV := Lib.hid (show (os.any fun o => !ordOk o n) = !os.all (fun o => ordOk o n) by simp [List.all_eq_not_any_not])
  have HI := Lib.hid (smIndex1_c P pc os n b w hP hol hos hb _ rfl)
  go_enter Try.func55, Try.ntmps55
  go_wp2_with fail
  refine (HI.out).mono ?_
  rintro e w1 ⟨i, rfl, hi, b1⟩
  rw [HV.out] at hi
  have HI2 := Lib.hid hi
  clear hi
  go_wp2
  go_ret
  exact ⟨retb (by first | exact HI2.out | (rw [← HI2.out]; simp)), b1⟩

/-! ### The memories are alike -/
def RoP (l : List Cd) (m : List Int) (A M : Option Addr) (ca cm N : Nat) (O : Option Addr) (oc : Nat) (o R : List Int) : Prop :=
  ∀ W : World, RdC W W.heap.size A l → RdI W W.heap.size M m → RdI W W.heap.size O o → Calls Try.prog 60 #[.slice A l.length ca, .int .i64 N, .slice M m.length cm, .slice O o.length oc] W (GmP W R)

set_option maxRecDepth 100000 in
set_option maxHeartbeats 4000000 in
theorem smF2_c (O A M X : Option Addr) (oc ca cm xc : Nat) (o V R m : List Int) (l : List Cd) (N b0 b1 b2 b3 : Nat) (w : World) (hA : RdC w w.heap.size A l) (hM : RdI w w.heap.size M m) (hO : RdI w w.heap.size O o) (hX : RdI w w.heap.size X V)
    (hol : o.length ≤ 1000000000) (hvl : V.length ≤ 1000000000) (hrl : R.length ≤ 1000000000) (hR : RoP l m A M ca cm N O oc o R)
    (q0 : w.cell? ⟨b0, 0, none⟩ = some (.slice A l.length ca)) (q1 : w.cell? ⟨b1, 0, none⟩ = some (.int .i64 N)) (q2 : w.cell? ⟨b2, 0, none⟩ = some (.slice M m.length cm)) (q3 : w.cell? ⟨b3, 0, none⟩ = some (.slice X V.length xc)) :
    Calls Try.prog 58 #[.slice O o.length oc, .pointer (some ⟨b0, 0, none⟩), .pointer (some ⟨b1, 0, none⟩), .pointer (some ⟨b2, 0, none⟩), .pointer (some ⟨b3, 0, none⟩)] w fun e w' => e = .returned (.bool (!intsEq R V)) ∧ Below w.heap.size w w' := by
  have HR := Lib.hid hR
  unfold RoP GmP at HR
  clear hR
  have hbd := (Below.refl w.heap.size w).drew
  have rA := hA.below hbd
  have rM := hM.below hbd
  have rO := hO.below hbd
  have rX := hX.below hbd
  have p0 : w.drew.cell? _ = _ := q0
  have p1 : w.drew.cell? _ = _ := q1
  have p2 : w.drew.cell? _ = _ := q2
  have p3 : w.drew.cell? _ = _ := q3
  go_enter Try.func58, Try.ntmps58
  go_wp2_with fail
  go_region_held3 (fun W => W.cell? ⟨b0, 0, none⟩ = some (.slice A l.length ca) ∧ W.cell? ⟨b1, 0, none⟩ = some (.int .i64 N) ∧ W.cell? ⟨b2, 0, none⟩ = some (.slice M m.length cm) ∧ W.cell? ⟨b3, 0, none⟩ = some (.slice X V.length xc))
    (first | exact ⟨p0, p1, p2, p3⟩ | exact ⟨cell_kept b6 (cell_kept b5 p0), cell_kept b6 (cell_kept b5 p1), cell_kept b6 (cell_kept b5 p2), cell_kept b6 (cell_kept b5 p3)⟩ | exact ⟨cell_kept b5 p0, cell_kept b5 p1, cell_kept b5 p2, cell_kept b5 p3⟩ | go_keep)
    (first | ((go_at_call 60; refine (HR.out w.drew rA rM rO).mono ?_; rintro e w5 ⟨Y, yc, rfl, oY, b5⟩; have vY := OwI.rd oY; have vX := (rX.below b5).more b5.size)) | ((go_at_call 59; refine (sliceEqual_c Y X yc xc R V w5 vY vX (by omega) (by omega)).mono ?_; rintro e w6 ⟨rfl, b6⟩)))
  rename_i hh
  clear hh
  have hbz := below_trans (below_trans hbd (Nat.le_refl _) b5) (Nat.le_refl _) b6
  clear b5 b6 p0 p1 p2 p3 q0 q1 q2 q3
  go_wp2
  go_ret
  exact ⟨rfl, hbz⟩

set_option maxRecDepth 100000 in
set_option maxHeartbeats 2000000 in
theorem smIndex2_c {As : Nat → Option Addr} {cs : Nat → Nat} (P A M X : Option Addr) (pc ca cm xc : Nat) (os : List (List Int)) (V m : List Int) (l : List Cd) (N b0 b1 b2 b3 : Nat) (F : List Int → List Int) (w : World) (hA : RdC w w.heap.size A l) (hM : RdI w w.heap.size M m) (hP : RdO w w.heap.size P As cs os) (hX : RdI w w.heap.size X V)
    (hol : os.length ≤ 1000000000) (hos : ∀ i, i < os.length → (os.getD i []).length ≤ 1000000000) (hvl : V.length ≤ 1000000000) (hrl : ∀ o, (F o).length ≤ 1000000000) (hR : ∀ i, i < os.length → RoP l m A M ca cm N (As i) (cs i) (os.getD i []) (F (os.getD i [])))
    (q0 : w.cell? ⟨b0, 0, none⟩ = some (.slice A l.length ca)) (q1 : w.cell? ⟨b1, 0, none⟩ = some (.int .i64 N)) (q2 : w.cell? ⟨b2, 0, none⟩ = some (.slice M m.length cm)) (q3 : w.cell? ⟨b3, 0, none⟩ = some (.slice X V.length xc)) (g : List Int → Bool) (hgd : g = fun o => !intsEq (F o) V) :
    Calls Try.prog 96 #[.slice P os.length pc, .func (Fn.func 58) #[] #[.pointer (some ⟨b0, 0, none⟩), .pointer (some ⟨b1, 0, none⟩), .pointer (some ⟨b2, 0, none⟩), .pointer (some ⟨b3, 0, none⟩)]] w fun e w' => ∃ i : Int, e = .returned (.int .i64 i) ∧ decide (0 ≤ i) = os.any g ∧ Below w.heap.size w w' := by
  have HGD := Lib.hid (fun o => show g o = !intsEq (F o) V by rw [hgd])
  have HOS := Lib.hid hos
  have HRR := Lib.hid hR
  have HRL := Lib.hid hrl
  clear hgd hos hR hrl
  go_enter Try.func96, Try.ntmps96
  go_wp2
  go_loopw [8] (fun kv wr => ∃ k : Nat, k ≤ os.length ∧ kv = .int .i64 k ∧ Hid ((os.take k).any g = false) ∧ Below w.heap.size w wr) (fun kv _ => os.length - (intOf kv).toNat)
  case atStart => exact ⟨0, Nat.zero_le _, rfl, Lib.hid (by simp), Below.refl _ _⟩
  case round =>
    obtain ⟨k, hk, rfl, HN, hbw⟩ := hrel
    by_cases hlt : k < os.length
    · have hPr := (hP.below hbw).more hbw.size
      obtain ⟨pb, po, rfl, hpB, p0⟩ := hPr.at_ hlt
      have hin := hPr.inn k hlt
      have hpl := HOS.out k hlt
      have HRK := Lib.hid (HRR.out k hlt)
      have HF := Lib.hid (fun a b c d e f g h => smF2_c (As k) A M X (cs k) ca cm xc (os.getD k []) V (F (os.getD k [])) m l N b0 b1 b2 b3 wr a b c d hpl hvl (HRL.out _) HRK.out e f g h)
      have hAr := (hA.below hbw).more hbw.size
      have hMr := (hM.below hbw).more hbw.size
      have hXr := (hX.below hbw).more hbw.size
      have HH := Lib.hid (fun h => row_hit (g := g) hlt h)
      have HT := Lib.hid (row_take hlt HN.out)
      have hkI : (k : Int) < (os.length : Int) := by omega
      have HQ := Lib.hid (And.intro (cell_kept hbw q0) (And.intro (cell_kept hbw q1) (And.intro (cell_kept hbw q2) (cell_kept hbw q3))))
      have HGO := Lib.hid (HGD.out (os.getD k []))
      clear hPr HRK
      generalize os.getD k [] = o at *
      go_wp2_with fail
      refine (HF.out hAr hMr hin hXr HQ.out.1 HQ.out.2.1 HQ.out.2.2.1 HQ.out.2.2.2).mono ?_
      rintro e w1 ⟨rfl, b1'⟩
      have hb2 := below_trans hbw (Nat.le_refl _) b1'
      rw [← HGO.out]
      cases hgx : g o with
      | true =>
        have HG := Lib.hid (HH.out hgx)
        clear hgx
        go_wp2
        go_ret
        exact ⟨k, rfl, by rw [HG.out]; simp, hb2⟩
      | false =>
        have HG := Lib.hid (HT.out.trans hgx)
        clear hgx
        go_wp2
        go_roundw
        case rel => exact ⟨k + 1, by omega, by go_num, HG, hb2⟩
        case measure => simp [intOf]; omega
    · obtain rfl : k = os.length := by omega
      have HN2 := Lib.hid (show os.any g = false by have := HN.out; rwa [List.take_length] at this)
      go_wp2
      go_ret
      exact ⟨-1, rfl, by rw [HN2.out]; simp, hbw⟩

set_option maxRecDepth 100000 in
set_option maxHeartbeats 2000000 in
theorem smContains2_c {As : Nat → Option Addr} {cs : Nat → Nat} (P A M X : Option Addr) (pc ca cm xc : Nat) (os : List (List Int)) (V m : List Int) (l : List Cd) (N b0 b1 b2 b3 : Nat) (F : List Int → List Int) (w : World) (hA : RdC w w.heap.size A l) (hM : RdI w w.heap.size M m) (hP : RdO w w.heap.size P As cs os) (hX : RdI w w.heap.size X V)
    (hol : os.length ≤ 1000000000) (hos : ∀ i, i < os.length → (os.getD i []).length ≤ 1000000000) (hvl : V.length ≤ 1000000000) (hrl : ∀ o, (F o).length ≤ 1000000000) (hR : ∀ i, i < os.length → RoP l m A M ca cm N (As i) (cs i) (os.getD i []) (F (os.getD i [])))
    (q0 : w.cell? ⟨b0, 0, none⟩ = some (.slice A l.length ca)) (q1 : w.cell? ⟨b1, 0, none⟩ = some (.int .i64 N)) (q2 : w.cell? ⟨b2, 0, none⟩ = some (.slice M m.length cm)) (q3 : w.cell? ⟨b3, 0, none⟩ = some (.slice X V.length xc)) :
    Calls Try.prog 55 #[.slice P os.length pc, .func (Fn.func 58) #[] #[.pointer (some ⟨b0, 0, none⟩), .pointer (some ⟨b1, 0, none⟩), .pointer (some ⟨b2, 0, none⟩), .pointer (some ⟨b3, 0, none⟩)]] w fun e w' => e = .returned (.bool (!os.all fun o => intsEq (F o) V)) ∧ Below w.heap.size w w' := by
  have HV := Lib.hid (show (os.any fun o => !intsEq (F o) V) = !os.all (fun o => intsEq (F o) V) by simp [List.all_eq_not_any_not])
  have HI := Lib.hid (smIndex2_c P A M X pc ca cm xc os V m l N b0 b1 b2 b3 F w hA hM hP hX hol hos hvl hrl hR q0 q1 q2 q3 _ rfl)
  go_enter Try.func55, Try.ntmps55
  go_wp2_with fail
  refine (HI.out).mono ?_
  rintro e w1 ⟨i, rfl, hi, b1'⟩
  rw [HV.out] at hi
  have HI2 := Lib.hid hi
  clear hi
  go_wp2
  go_ret
  exact ⟨retb (by first | exact HI2.out | (rw [← HI2.out]; simp)), b1'⟩

theorem order_run {l : List Cd} {N : Nat} {m o : List Int} {A M O : Option Addr} {ca cm oc : Nat} (hlo : lockOk l N m = true) (ho : ordOk o N = true) : RoP l m A M ca cm N O oc o (orderM l N m o) := by
  have hok : orderOk l N m o = true := by simp [orderOk, hlo, ho]
  obtain ⟨N', he, N1, N8, x1, x40, hxs, hsch, hp, hw, hm1, hm32⟩ := order_in hok
  have e : N' = N := by have := he; omega
  subst e
  have hV : orderM l N' m o = (runE l (orSch o) (Cw.start N' m)).mem := by simp [orderM, hok]
  rw [hV]
  exact fun W a b d => runOrder_c A M O ca cm oc l N' m o W a b d N1 N8 x1 x40 hxs hsch hp hw hm1 hm32

set_option maxRecDepth 100000 in
set_option maxHeartbeats 8000000 in
theorem iSameMemory_c {As : Nat → Option Addr} {cs : Nat → Nat} (A M P : Option Addr) (ca cm pc : Nat) (l : List Cd) (n : Int) (m : List Int) (os : List (List Int)) (w : World) (hA : RdC w w.heap.size A l) (hM : RdI w w.heap.size M m) (hP : RdO w w.heap.size P As cs os) (hl : l.length ≤ 1000000000) (hml : m.length ≤ 1000000000) (hol : os.length ≤ 1000000000) (hos : ∀ i, i < os.length → (os.getD i []).length ≤ 1000000000) :
    Calls Try.prog 21 #[.slice A l.length ca, .int .i64 n, .slice M m.length cm, .slice P os.length pc] w fun e w' => e = .returned (.bool (sameB l n m os)) ∧ Below w.heap.size w w' := by
  have hmf : ∀ (fn : Fn) (first cap : Array Value) (w : World), (Instr.makeFunc fn first cap).run Try.prog w = .ok (.func fn first cap) w := fun _ _ _ _ => rfl
  have HOS := Lib.hid hos
  have hn0 := heap_alloc_new w (.cells #[.slice A l.length ca] 26)
  have hn1 := heap_alloc_new (w.alloc (.cells #[.slice A l.length ca] 26)) (.cells #[.int .i64 n] 3)
  have hn2 := heap_alloc_new ((w.alloc (.cells #[.slice A l.length ca] 26)).alloc (.cells #[.int .i64 n] 3)) (.cells #[.slice M m.length cm] 23)
  have hx1 := Ext.alloc (w.alloc (.cells #[.slice A l.length ca] 26)) (.cells #[.int .i64 n] 3)
  have hx2 := Ext.alloc ((w.alloc (.cells #[.slice A l.length ca] 26)).alloc (.cells #[.int .i64 n] 3)) (.cells #[.slice M m.length cm] 23)
  have hb3 : Below w.heap.size w (((w.alloc (.cells #[.slice A l.length ca] 26)).alloc (.cells #[.int .i64 n] 3)).alloc (.cells #[.slice M m.length cm] 23)) := ((Below.refl _ _).alloc (Nat.le_refl _) _ |>.alloc (by simp) _).alloc (by simp; omega) _
  have q0 : (((w.alloc (.cells #[.slice A l.length ca] 26)).alloc (.cells #[.int .i64 n] 3)).alloc (.cells #[.slice M m.length cm] 23)).cell? ⟨w.heap.size, 0, none⟩ = some (.slice A l.length ca) := hx2.cell (hx1.cell ((cell_of_heap hn0 0).trans rfl))
  have q1 : (((w.alloc (.cells #[.slice A l.length ca] 26)).alloc (.cells #[.int .i64 n] 3)).alloc (.cells #[.slice M m.length cm] 23)).cell? ⟨w.heap.size + 1, 0, none⟩ = some (.int .i64 n) := by
    have h := hx2.cell ((cell_of_heap hn1 0).trans rfl)
    simpa using h
  have q2 : (((w.alloc (.cells #[.slice A l.length ca] 26)).alloc (.cells #[.int .i64 n] 3)).alloc (.cells #[.slice M m.length cm] 23)).cell? ⟨w.heap.size + 2, 0, none⟩ = some (.slice M m.length cm) := by
    have h := (cell_of_heap hn2 0).trans rfl
    simpa using h
  have hA3 := (hA.below hb3).more hb3.size
  have hM3 := (hM.below hb3).more hb3.size
  have hP3 := (hP.below hb3).more hb3.size
  clear hn0 hn1 hn2 hx1 hx2 hA hM hP hos
  cases hlo : lockOk l n m with
  | false =>
    have HV := Lib.hid (show sameB l n m os = false by simp [sameB, hlo])
    have HCR := Lib.hid (fun (W : World) (a : RdC W W.heap.size A l) (b : RdI W W.heap.size M m) => canRun_c A M ca cm l n m W a b hl hml)
    rw [hlo] at HCR
    go_enter Try.func21, Try.ntmps21
    go_wp2_with fail
    generalize ((w.alloc (.cells #[.slice A l.length ca] 26)).alloc (.cells #[.int .i64 n] 3)).alloc (.cells #[.slice M m.length cm] 23) = w3 at *
    refine (HCR.out w3 hA3 hM3).mono ?_
    rintro e w4 ⟨rfl, b4⟩
    have hb4 := below_trans hb3 (Nat.le_refl _) b4
    clear q0 q1 q2 hA3 hM3 hP3 b4 hb3
    go_wp2
    go_ret
    exact ⟨retb HV.out.symm, hb4⟩
  | true =>
    by_cases h6 : os.length ≤ 6
    · have h6I : ¬ (6 : Int) < (os.length : Int) := by omega
      obtain ⟨N, rfl, N1, N8, hp, hw, hm1, hm32⟩ := lock_parts hlo
      have HCR := Lib.hid (fun (W : World) (a : RdC W W.heap.size A l) (b : RdI W W.heap.size M m) => canRun_c A M ca cm l N m W a b hl hml)
      rw [hlo] at HCR
      have HC1 := Lib.hid (fun (W : World) (a : RdO W W.heap.size P As cs os) (b : W.cell? ⟨w.heap.size + 1, 0, none⟩ = some (.int .i64 N)) => smContains1_c P pc os N (w.heap.size + 1) W a hol HOS.out b)
      cases ha : os.all (fun o => ordOk o N) with
      | false =>
        have HV := Lib.hid (show sameB l N m os = false by simp [sameB, ha])
        rw [ha] at HC1
        clear hp hw ha
        go_enter Try.func21, Try.ntmps21
        go_wp2_with fail
        generalize ((w.alloc (.cells #[.slice A l.length ca] 26)).alloc (.cells #[.int .i64 N] 3)).alloc (.cells #[.slice M m.length cm] 23) = w3 at *
        refine (HCR.out w3 hA3 hM3).mono ?_
        rintro e w4 ⟨rfl, b4⟩
        have hb4 := below_trans hb3 (Nat.le_refl _) b4
        replace hP3 := (hP3.below b4).more b4.size
        replace q1 := cell_kept b4 q1
        clear q0 q2 hA3 hM3 b4 hb3
        go_wp2_with fail
        refine (HC1.out w4 hP3 q1).mono ?_
        rintro e w5 ⟨rfl, b5⟩
        have hb5 := below_trans hb4 (Nat.le_refl _) b5
        clear b5 hb4 q1 hP3
        go_wp2
        go_ret
        exact ⟨retb HV.out.symm, hb5⟩
      | true =>
        have HV := Lib.hid ((same_spec hlo h6).symm)
        have hVM : leastM l N m = (runE l (allSch N) (Cw.start N m)).mem := by simp [leastM, hlo]
        have HRL := Lib.hid (fun (W : World) (a : RdC W W.heap.size A l) (b : RdI W W.heap.size M m) => runLeast_c A M ca cm l N m W a b N1 N8 hp hw hm1 hm32)
        rw [← hVM] at HRL
        unfold IlP at HRL
        rw [ha] at HC1
        have HOR := Lib.hid (fun i (hi : i < os.length) => order_run (A := A) (M := M) (ca := ca) (cm := cm) (O := As i) (oc := cs i) hlo (List.all_eq_true.1 ha _ (List.mem_of_getElem? (rowD hi))))
        have HFL := Lib.hid (fun o => show (orderM l N m o).length ≤ 1000000000 from Nat.le_trans (orderM_len l N m o) hml)
        have hvl : (leastM l N m).length ≤ 1000000000 := Nat.le_trans (leastM_len l N m) hml
        clear hp hw ha hVM
        generalize leastM l N m = V at *
        generalize orderM l N m = F at *
        go_enter Try.func21, Try.ntmps21
        go_wp2_with fail
        generalize ((w.alloc (.cells #[.slice A l.length ca] 26)).alloc (.cells #[.int .i64 N] 3)).alloc (.cells #[.slice M m.length cm] 23) = w3 at *
        refine (HCR.out w3 hA3 hM3).mono ?_
        rintro e w4 ⟨rfl, b4⟩
        have hb4 := below_trans hb3 (Nat.le_refl _) b4
        replace hP3 := (hP3.below b4).more b4.size
        replace hA3 := (hA3.below b4).more b4.size
        replace hM3 := (hM3.below b4).more b4.size
        replace q0 := cell_kept b4 q0
        replace q1 := cell_kept b4 q1
        replace q2 := cell_kept b4 q2
        clear b4 hb3 HCR
        go_wp2_with fail
        refine (HC1.out w4 hP3 q1).mono ?_
        rintro e w5 ⟨rfl, b5⟩
        have hb5 := below_trans hb4 (Nat.le_refl _) b5
        replace hP3 := (hP3.below b5).more b5.size
        replace hA3 := (hA3.below b5).more b5.size
        replace hM3 := (hM3.below b5).more b5.size
        replace q0 := cell_kept b5 q0
        replace q1 := cell_kept b5 q1
        replace q2 := cell_kept b5 q2
        clear b5 hb4 HC1
        go_wp2_with fail
        refine (HRL.out w5 hA3 hM3).mono ?_
        rintro e w6 ⟨X, xc, T, rfl, oX, b6⟩
        have hb6 := below_trans hb5 (Nat.le_refl _) b6
        replace hP3 := (hP3.below b6).more b6.size
        replace hA3 := (hA3.below b6).more b6.size
        replace hM3 := (hM3.below b6).more b6.size
        replace q0 := cell_kept b6 q0
        replace q1 := cell_kept b6 q1
        replace q2 := cell_kept b6 q2
        have vX := OwI.rd oX
        have hn7 := heap_alloc_new w6 (.cells #[.slice X V.length xc] 23)
        have hx7 := Ext.alloc w6 (.cells #[.slice X V.length xc] 23)
        have q3 : (w6.alloc (.cells #[.slice X V.length xc] 23)).cell? ⟨w6.heap.size, 0, none⟩ = some (.slice X V.length xc) := (cell_of_heap hn7 0).trans rfl
        have b7 := hx7.below
        have hb7 := below_trans hb6 (Nat.le_refl _) b7
        replace hP3 := (hP3.below b7).more b7.size
        replace hA3 := (hA3.below b7).more b7.size
        replace hM3 := (hM3.below b7).more b7.size
        replace vX := (vX.below b7).more b7.size
        replace q0 := hx7.cell q0
        replace q1 := hx7.cell q1
        replace q2 := hx7.cell q2
        clear b6 hb5 oX HRL b7 hx7 hn7 hb6
        go_wp2_with fail
        generalize w6.alloc (.cells #[.slice X V.length xc] 23) = w7 at *
        refine (smContains2_c P A M X pc ca cm xc os V m l N w.heap.size (w.heap.size + 1) (w.heap.size + 2) w6.heap.size F w7 hA3 hM3 hP3 vX hol HOS.out hvl HFL.out HOR.out q0 q1 q2 q3).mono ?_
        rintro e w8 ⟨rfl, b8⟩
        have hb8 := below_trans hb7 (Nat.le_refl _) b8
        clear b8 hb7 q0 q1 q2 q3 hP3 hA3 hM3 vX
        rw [HV.out]
        go_wp2
        go_ret
        exact ⟨retb (by simp), hb8⟩
    · have h6I : (6 : Int) < (os.length : Int) := by omega
      have HV := Lib.hid (show sameB l n m os = false by simp [sameB, h6])
      have HCR := Lib.hid (fun (W : World) (a : RdC W W.heap.size A l) (b : RdI W W.heap.size M m) => canRun_c A M ca cm l n m W a b hl hml)
      rw [hlo] at HCR
      go_enter Try.func21, Try.ntmps21
      go_wp2_with fail
      generalize ((w.alloc (.cells #[.slice A l.length ca] 26)).alloc (.cells #[.int .i64 n] 3)).alloc (.cells #[.slice M m.length cm] 23) = w3 at *
      refine (HCR.out w3 hA3 hM3).mono ?_
      rintro e w4 ⟨rfl, b4⟩
      have hb4 := below_trans hb3 (Nat.le_refl _) b4
      clear q0 q1 q2 hA3 hM3 hP3 b4 hb3
      go_wp2
      go_ret
      exact ⟨retb HV.out.symm, hb4⟩


set_option maxRecDepth 100000 in
set_option maxHeartbeats 4000000 in
theorem fnExactSameMemory_c (w : World) (A0 : Option Addr) (c0 : Nat) (l : List Cd) (hA0 : RdC w w.heap.size A0 l) (hL0 : l.length ≤ 9223372036854775807) (k : Int) (_ : (Lit.int .i64 k).wf = true) (A2 : Option Addr) (c2 : Nat) (m : List Int) (hA2 : RdI w w.heap.size A2 m) (hL2 : m.length ≤ 9223372036854775807) (A3 : Option Addr) (c3 : Nat) (ps : List (List Int)) (As3 : Nat → Option Addr) (cs3 : Nat → Nat) (hA3 : RdO w w.heap.size A3 As3 cs3 ps) (hL3 : ps.length ≤ 9223372036854775807) (hM3 : ∀ i, i < ps.length → (ps.getD i []).length ≤ 9223372036854775807) :
    Calls Try.prog 4 #[.slice A0 l.length c0, .int .i64 k, .slice A2 m.length c2, .slice A3 ps.length c3] w fun e w' => e = .returned (.bool true) ∧ Below w.heap.size w w' := by
  by_cases hbig2 : 1048576 < m.length
  · go_enter Try.func4, Try.ntmps4
    go_wp2
    go_ret
    exact ⟨rfl, Below.refl _ _⟩
  · have hn2 : m.length ≤ 1048576 := by omega
    clear hbig2
    by_cases hbig0 : 1048576 < l.length
    · go_enter Try.func4, Try.ntmps4
      go_wp2_with fail
      refine (szCodeS_c A0 l.length c0 1048576 _ hL0 (by omega) (by omega)).mono ?_
      rintro e w' ⟨rfl, rfl⟩
      rw [if_pos (by omega)]
      go_wp2
      go_ret
      exact ⟨rfl, Below.refl _ _⟩
    · have hn0 : l.length ≤ 1048576 := by omega
      clear hbig0
      have hle : (1048576 : Int) - (l.length : Int) = ((1048576 - l.length : Nat) : Int) := by omega
      have HLE := Lib.hid hle
      clear hle
      have hLL : 1048576 - l.length ≤ 1048576 := by omega
      go_enter Try.func4, Try.ntmps4
      go_wp2_with fail
      refine (szCodeS_c A0 l.length c0 1048576 _ hL0 (by omega) (by omega)).mono ?_
      rintro e w' ⟨rfl, rfl⟩
      rw [if_neg (by omega), HLE.out]
      generalize 1048576 - l.length = L at *
      go_wp2_with fail
      refine (szIntSS_c A3 c3 L hLL ps _ hA3 hL3 hM3).mono ?_
      rintro e w' ⟨r, rfl, hr1, hr2, hr3, rfl⟩
      by_cases hneg : r < 0
      · go_wp2
        go_ret
        exact ⟨rfl, Below.refl _ _⟩
      · have hS := hr3 (by omega)
        have hnn : ¬ (r < 0) := hneg
        have hls1 : ∀ i, i < ps.length → (ps.getD i []).length ≤ 1048576 := fun i hi => by have := lenSumI_get ps hi; omega
        have HLS := Lib.hid hls1
        clear hneg hr3 hr1 hr2 hls1 hM3 HLE hLL
        have hBB := Below.refl w.heap.size w
        have hpl : ps.length ≤ 1048576 := by omega
        clear hS
        go_wp2_with fail
        refine (toCodeS_c A0 c0 l _ ((hA0.below hBB).more hBB.size) (by omega)).mono ?_
        rintro e w1 ⟨t1A, rfl, t1, b1⟩
        replace hBB := below_trans hBB (Nat.le_refl _) b1
        clear b1
        replace t1 : OwC _ _ _ _ _ l := .inr t1
        go_wp2_with fail
        refine (toIntS_c A2 c2 m _ ((hA2.below hBB).more hBB.size) (by omega)).mono ?_
        rintro e w2 ⟨t2A, rfl, t2, b2⟩
        replace hBB := below_trans hBB (Nat.le_refl _) b2
        replace t1 := t1.below b2 (Nat.le_refl _)
        clear b2
        replace t2 : OwI _ _ _ _ _ m := .inr t2
        go_wp2_with fail
        refine (toIntSS_c A3 c3 ps _ ((hA3.below hBB).more hBB.size) (by omega) HLS.out).mono ?_
        rintro e w3 ⟨t3A, t3c, t3b, rfl, t3, b3⟩
        replace hBB := below_trans hBB (Nat.le_refl _) b3
        replace t1 := t1.below b3 (Nat.le_refl _)
        replace t2 := t2.below b3 (Nat.le_refl _)
        clear b3
        go_wp2_with fail
        refine (sSameMemory_c t1A t2A (some ⟨w2.heap.size, 0, none⟩) _ _ _ l k m ps _ t1.rd t2.rd t3.rd (by omega) (by omega) (by omega) (fun i hi => by have := HLS.out i hi; omega)).mono ?_
        rintro e w4 ⟨rfl, b4⟩
        replace hBB := below_trans hBB (Nat.le_refl _) b4
        replace t1 := t1.below b4 (Nat.le_refl _)
        replace t2 := t2.below b4 (Nat.le_refl _)
        replace t3 := t3.below b4
        clear b4
        clear t1 t2 t3
        go_wp2_with fail
        refine (toCodeS_c A0 c0 l _ ((hA0.below hBB).more hBB.size) (by omega)).mono ?_
        rintro e w5 ⟨x1A, rfl, x1, b5⟩
        replace hBB := below_trans hBB (Nat.le_refl _) b5
        clear b5
        replace x1 : OwC _ _ _ _ _ l := .inr x1
        go_wp2_with fail
        refine (toIntS_c A2 c2 m _ ((hA2.below hBB).more hBB.size) (by omega)).mono ?_
        rintro e w6 ⟨x2A, rfl, x2, b6⟩
        replace hBB := below_trans hBB (Nat.le_refl _) b6
        replace x1 := x1.below b6 (Nat.le_refl _)
        clear b6
        replace x2 : OwI _ _ _ _ _ m := .inr x2
        go_wp2_with fail
        refine (toIntSS_c A3 c3 ps _ ((hA3.below hBB).more hBB.size) (by omega) HLS.out).mono ?_
        rintro e w7 ⟨x3A, x3c, x3b, rfl, x3, b7⟩
        replace hBB := below_trans hBB (Nat.le_refl _) b7
        replace x1 := x1.below b7 (Nat.le_refl _)
        replace x2 := x2.below b7 (Nat.le_refl _)
        clear b7
        go_wp2_with fail
        refine (iSameMemory_c x1A x2A (some ⟨w6.heap.size, 0, none⟩) _ _ _ l k m ps _ x1.rd x2.rd x3.rd (by omega) (by omega) (by omega) (fun i hi => by have := HLS.out i hi; omega)).mono ?_
        rintro e w8 ⟨rfl, b8⟩
        replace hBB := below_trans hBB (Nat.le_refl _) b8
        replace x1 := x1.below b8 (Nat.le_refl _)
        replace x2 := x2.below b8 (Nat.le_refl _)
        replace x3 := x3.below b8
        clear b8
        have hne : (sameB l k m ps != sameB l k m ps) = false := by simp
        generalize sameB l k m ps = B at *
        go_wp2_with fail
        refine (toCodeS_c A0 c0 l _ ((hA0.below hBB).more hBB.size) (by omega)).mono ?_
        rintro e w9 ⟨y1A, rfl, y1, b9⟩
        replace hBB := below_trans hBB (Nat.le_refl _) b9
        replace x1 := x1.below b9 (Nat.le_refl _)
        replace x2 := x2.below b9 (Nat.le_refl _)
        replace x3 := x3.below b9
        clear b9
        replace y1 : OwC _ _ _ _ _ l := .inr y1
        go_wp2_with fail
        refine (eqCodeS_c x1A y1A _ _ l l _ x1.rd y1.rd (by omega) (by omega)).mono ?_
        rintro e w10 ⟨rfl, b10⟩
        replace hBB := below_trans hBB (Nat.le_refl _) b10
        replace x1 := x1.below b10 (Nat.le_refl _)
        replace x2 := x2.below b10 (Nat.le_refl _)
        replace x3 := x3.below b10
        replace y1 := y1.below b10 (Nat.le_refl _)
        clear b10
        rw [cdsEq_refl]
        clear x1 y1
        go_wp2_with fail
        refine (toIntS_c A2 c2 m _ ((hA2.below hBB).more hBB.size) (by omega)).mono ?_
        rintro e w11 ⟨y2A, rfl, y2, b11⟩
        replace hBB := below_trans hBB (Nat.le_refl _) b11
        replace x2 := x2.below b11 (Nat.le_refl _)
        replace x3 := x3.below b11
        clear b11
        replace y2 : OwI _ _ _ _ _ m := .inr y2
        go_wp2_with fail
        refine (eqIntS_c x2A y2A _ _ m m _ x2.rd y2.rd (by omega) (by omega)).mono ?_
        rintro e w12 ⟨rfl, b12⟩
        replace hBB := below_trans hBB (Nat.le_refl _) b12
        replace x2 := x2.below b12 (Nat.le_refl _)
        replace x3 := x3.below b12
        replace y2 := y2.below b12 (Nat.le_refl _)
        clear b12
        rw [intsEq_refl]
        clear x2 y2
        go_wp2_with fail
        refine (toIntSS_c A3 c3 ps _ ((hA3.below hBB).more hBB.size) (by omega) HLS.out).mono ?_
        rintro e w13 ⟨y3A, y3c, y3b, rfl, y3, b13⟩
        replace hBB := below_trans hBB (Nat.le_refl _) b13
        replace x3 := x3.below b13
        clear b13
        go_wp2_with fail
        refine (eqIntSS_c (some ⟨w6.heap.size, 0, none⟩) (some ⟨w12.heap.size, 0, none⟩) _ _ ps _ x3.rd y3.rd (by omega) HLS.out).mono ?_
        rintro e w14 ⟨rfl, b14⟩
        replace hBB := below_trans hBB (Nat.le_refl _) b14
        replace x3 := x3.below b14
        replace y3 := y3.below b14
        clear b14
        go_wp2
        go_ret
        exact ⟨rfl, hBB⟩

open Go.ChangeShapes Go.WideShapes Go.RowKit Go.Deep

section
variable {H : Type} {enc : TypeId × Value → H} {P : Program} {w : World}

/-- A row of numbers, as a cell of a row. -/
theorem row_trod {t e : TypeId} {fuel : Nat} {v : Value} {y : DataW H × List MemPlace} (ht : P.underlying t = some (.slice e)) (he : P.underlying e = some (.int .i64)) (hc : P.cellsOf e = 1)
    (hf : DataW.trod enc P w 0 (fun _ => true) true fuel t [v] = some y) :
    ∃ (A : Option Addr) (c : Nat) (l : List Int), v = .slice A l.length c ∧ RdI w w.heap.size A l ∧ l.length ≤ 9223372036854775807 := by
  rcases open_ints ht he hc hf with ⟨hcs, hx⟩ | ⟨a, len, cap, zs, hcs, _, hl, hm, hz, hx, hcell, hwz⟩
  · obtain rfl : v = .slice none 0 0 := by simpa using hcs
    exact ⟨none, 0, [], rfl, Reads.none_, by simp⟩
  · obtain rfl : v = .slice (some a) len cap := by simpa using hcs
    simp only [if_true] at hz
    unfold maxLen at hm
    have hlen : (zs.take len).length = len := by rw [List.length_take]; omega
    refine ⟨some a, cap, zs.take len, by rw [hlen], ⟨by simp, fun hn => ?_⟩, by omega⟩
    rw [hlen] at hn
    obtain ⟨b, off, rfl, hb⟩ := cell_at (hcell 0 (by omega))
    refine ⟨b, off, rfl, hb, fun j u hu => ?_⟩
    rw [List.getElem?_map, List.getElem?_take] at hu
    split at hu
    · have h1 := hcell j (by omega)
      rw [add_lit] at h1
      rw [h1, ← hu, List.getElem?_eq_getElem (by omega)]
      simp [List.getD, List.getElem?_eq_getElem (show j < zs.length by omega)]
    · simp at hu

/-- A slice of orders that came in. -/
theorem open_rows2 {u t e : TypeId} {r : Reach} {b0 : Nat} {v : Value} {d : DataW H} {p : List MemPlace} (hu : P.underlying u = some (.slice t)) (ht : P.underlying t = some (.slice e)) (ct : P.cellsOf t = 1) (he : P.underlying e = some (.int .i64)) (hc : P.cellsOf e = 1)
    (hv : Value.okWide P w r b0 u v) (h : DataW.Trod enc P w 0 (fun _ => true) true u v d p) :
    ∃ (A : Option Addr) (c : Nat) (ps : List (List Int)) (As : Nat → Option Addr) (cs : Nat → Nat), v = .slice A ps.length c ∧ RdO w w.heap.size A As cs ps ∧ ps.length ≤ 9223372036854775807 ∧ ∀ i, i < ps.length → (ps.getD i []).length ≤ 9223372036854775807 := by
  obtain ⟨a0, len, cap, rfl⟩ := okWide_slice hu hv
  obtain ⟨fuel, hf⟩ := h
  rcases open_slice hu hf with ⟨hcs, hx⟩ | ⟨a, len', cap', m, n, D, Pl, hcs, _, hl, hm, hmm, hx, hi⟩
  · simp [Value.cells] at hcs
    obtain ⟨rfl, rfl, rfl⟩ := hcs
    exact ⟨none, 0, [], fun _ => none, fun _ => 0, rfl, ⟨Reads.none_, fun i hi => absurd hi (by simp)⟩, by simp, fun i hi => absurd hi (by simp)⟩
  · simp [Value.cells] at hcs
    obtain ⟨rfl, rfl, rfl⟩ := hcs
    simp only [if_true] at hmm
    subst hmm
    unfold maxLen at hm
    rw [ct] at hi
    have key : ∀ i, i < len → ∃ x : Option Addr × Nat × List Int, w.cell? (a.add i) = some (.slice x.1 x.2.2.length x.2.1) ∧ RdI w w.heap.size x.1 x.2.2 ∧ x.2.2.length ≤ 9223372036854775807 := by
      intro i hil
      obtain ⟨cs', h1, h2⟩ := hi i (by omega)
      obtain ⟨_, hlen, hcell⟩ := World.cells?_some h1
      match cs', hlen with
      | [v0], _ =>
        obtain ⟨A, c, l, rfl, hR, hL⟩ := row_trod ht he hc h2
        have h3 := hcell 0 (by omega)
        rw [add_of_add] at h3
        exact ⟨(A, c, l), by simpa using h3, hR, hL⟩
    obtain ⟨f, hf2⟩ : ∃ f : Nat → Option Addr × Nat × List Int, ∀ i, i < len → w.cell? (a.add i) = some (.slice (f i).1 (f i).2.2.length (f i).2.1) ∧ RdI w w.heap.size (f i).1 (f i).2.2 ∧ (f i).2.2.length ≤ 9223372036854775807 := by
      classical
      exact ⟨fun i => if hi : i < len then (key i hi).choose else (none, 0, []), fun i hi => by simp only [dif_pos hi]; exact (key i hi).choose_spec⟩
    have hlen : ((List.range len).map fun i => (f i).2.2).length = len := by simp
    have hg : ∀ i, i < len → ((List.range len).map fun i => (f i).2.2).getD i [] = (f i).2.2 := fun i hi => by simp [List.getD_eq_getElem?_getD, hi]
    refine ⟨some a, m, (List.range len).map fun i => (f i).2.2, fun i => (f i).1, fun i => (f i).2.1, by rw [hlen], ⟨⟨by simp [intsV], fun hn => ?_⟩, fun i hi => ?_⟩, by omega, fun i hi => ?_⟩
    · rw [hlen] at hn
      obtain ⟨b, off, rfl, hb⟩ := cell_at (hf2 0 hn).1
      refine ⟨b, off, rfl, hb, fun j u hu => ?_⟩
      have hj : j < len := by
        have := (List.getElem?_eq_some_iff.1 hu).1
        simpa [intsV] using this
      rw [intsV_get (by rw [hlen]; exact hj), hg j hj] at hu
      rw [← hu, ← (hf2 j hj).1, add_lit]
    · rw [hlen] at hi
      rw [hg i hi]
      exact (hf2 i hi).2.1
    · rw [hlen] at hi
      rw [hg i hi]
      exact (hf2 i hi).2.2
end

end Go.Proofs.Ytelbfeidpcojmaa
