/- toCodeSS -/
import Derived.Test.YtakeacndmnnbmaaGreatProgM
namespace Go.Proofs.YtakeacndmnnbmaaGreat
open Go.RowKit
set_option linter.unusedVariables false
set_option linter.unusedSimpArgs false

/-- Programs in the course of being copied: the first k of them are there. -/
structure PPart (w : World) (base pb : Nat) (ps : List (List Cd)) (As : Nat → Option Addr) (cs bs : Nat → Nat) (vs : List Value) (k : Nat) : Prop where
  own : OR w base 27 1 (some ⟨pb, 0, none⟩) ps.length ps.length vs
  row : ∀ j, j < k → vs[j]? = some (.slice (As j) (ps.getD j []).length (cs j)) ∧ OC w (bs j) (As j) (ps.getD j []).length (cs j) (ps.getD j []) ∧ pb < bs j ∧ bs j ≤ bs (j + 1) ∧ ∀ q, Value.ownBlock (.slice (As j) (ps.getD j []).length (cs j)) = some q → q < bs (j + 1)
  rest : ∀ j, k ≤ j → j < ps.length → vs[j]? = some (.slice none 0 0)
theorem PPart.below {w w' : World} {base pb k : Nat} {ps : List (List Cd)} {As : Nat → Option Addr} {cs bs : Nat → Nat} {vs : List Value} (h : PPart w base pb ps As cs bs vs k) (hb : Below w.heap.size w w') : PPart w' base pb ps As cs bs vs k :=
  ⟨h.own.below hb (Nat.le_refl _), fun j hj => by
    obtain ⟨h1, h2, h3⟩ := h.row j hj
    exact ⟨h1, OR.below h2 hb (Nat.le_refl _), h3⟩, h.rest⟩
theorem PPart.put {w : World} {base pb k : Nat} {ps : List (List Cd)} {As : Nat → Option Addr} {cs bs : Nat → Nat} {vs : List Value} (h : PPart w base pb ps As cs bs vs k) (hk : k < ps.length) {A' : Option Addr} {c' nb : Nat} (hr : OC w (bs k) A' (ps.getD k []).length c' (ps.getD k [])) (hpb : pb < bs k) (hnb : bs k ≤ nb)
    (hq : ∀ q, Value.ownBlock (.slice A' (ps.getD k []).length c') = some q → q < nb) :
    ∃ vs', PPart (w.setCell ⟨pb, k, none⟩ (.slice A' (ps.getD k []).length c')) base pb ps (fun j => if j = k then A' else As j) (fun j => if j = k then c' else cs j) (fun j => if j = k + 1 then nb else bs j) vs' (k + 1) := by
  obtain ⟨cur, hblk⟩ := OR.heap_ h.own
  have hl : vs.length = ps.length := by have := h.own.len; omega
  refine ⟨_, (OR.at0 h.own).2.2 k _, fun j hj => ?_, fun j hj hj2 => ?_⟩
  · by_cases e : j = k
    · subst e
      have e1 : ¬ j = j + 1 := by omega
      simp only [if_true, e1, if_false]
      exact ⟨by rw [List.getElem?_set, if_pos rfl, if_pos (by omega)], OR.set_other hr (p := ⟨pb, j, none⟩) (own_ne hr hblk (by decide)) _, hpb, hnb, hq⟩
    · obtain ⟨e1, e2, e3, e4, e5⟩ := h.row j (by omega)
      have n1 : ¬ j = k + 1 := by omega
      have n2 : ¬ j + 1 = k + 1 := by omega
      simp only [e, n1, n2, if_false]
      exact ⟨by rw [List.getElem?_set, if_neg (by omega)]; exact e1, OR.set_other e2 (p := ⟨pb, k, none⟩) (own_ne e2 hblk (by decide)) _, e3, e4, e5⟩
  · rw [List.getElem?_set, if_neg (by omega)]
    exact h.rest j (by omega) hj2

/-- Own programs: a row of its own, and rows of their own, one behind the other. -/
structure OwP (w : World) (lo hi pb : Nat) (As : Nat → Option Addr) (cs bs : Nat → Nat) (ps : List (List Cd)) : Prop where
  own : OR w lo 27 1 (some ⟨pb, 0, none⟩) ps.length ps.length (progV As cs ps)
  row : ∀ j, j < ps.length → OC w (bs j) (As j) (ps.getD j []).length (cs j) (ps.getD j []) ∧ pb < bs j ∧ bs j ≤ bs (j + 1) ∧ ∀ q, Value.ownBlock (.slice (As j) (ps.getD j []).length (cs j)) = some q → q < bs (j + 1)
  top : ∀ j, j ≤ ps.length → bs j ≤ hi
  pbh : pb < hi
theorem PPart.done {w : World} {base pb hi : Nat} {ps : List (List Cd)} {As : Nat → Option Addr} {cs bs : Nat → Nat} {vs : List Value} (h : PPart w base pb ps As cs bs vs ps.length) (hh : ∀ j, j ≤ ps.length → bs j ≤ hi) (hp : pb < hi) : OwP w base hi pb As cs bs ps := by
  have hl : vs.length = ps.length := by have := h.own.len; omega
  have e : vs = progV As cs ps := by
    apply List.ext_getElem?
    intro j
    by_cases hj : j < ps.length
    · rw [(h.row j hj).1, progV_get hj]
    · rw [List.getElem?_eq_none (by omega), List.getElem?_eq_none (by simp [progV]; omega)]
  subst e
  exact ⟨h.own, fun j hj => (h.row j hj).2, hh, hp⟩
theorem OwP.rd {w : World} {lo hi pb : Nat} {As : Nat → Option Addr} {cs bs : Nat → Nat} {ps : List (List Cd)} (h : OwP w lo hi pb As cs bs ps) : RdP w w.heap.size (some ⟨pb, 0, none⟩) As cs ps := ⟨OR.reads h.own, fun i hi => OR.reads (h.row i hi).1⟩
theorem OwP.below {w w' : World} {lo hi pb : Nat} {As : Nat → Option Addr} {cs bs : Nat → Nat} {ps : List (List Cd)} (h : OwP w lo hi pb As cs bs ps) (hb : Below w.heap.size w w') : OwP w' lo hi pb As cs bs ps :=
  ⟨h.own.below hb (Nat.le_refl _), fun j hj => by
    obtain ⟨h1, h2⟩ := h.row j hj
    exact ⟨OR.below h1 hb (Nat.le_refl _), h2⟩, h.top, h.pbh⟩

theorem infoProgs2 : (Tryz.prog.info? 27).map (fun i => (i.zero, i.size, i.bytes)) = some (some (.slice none 0 0), 1, 24) := by kernel_rfl
theorem make_progs2 (n : Nat) (hn : n ≤ 1000000000000) (w : World) :
    (Instr.makeSlice 44 (.int .i64 (n : Int)) (.int .i64 (n : Int))).run Tryz.prog w = .ok (.slice (some ⟨w.heap.size, 0, none⟩) n n) (w.alloc (.cells (zeroRow (.slice none 0 0) n) 27)) := by
  obtain ⟨i0, hi, hz0, hz1, hz2⟩ := info_parts infoProgs2
  have := run_make_rowN (P := Tryz.prog) 44 27 i0 _ Tryz.underlying44 hi hz0 .i64 .i64 n n (Nat.le_refl _) (by rw [hz2]; omega) (by omega) w
  rw [hz1, Nat.mul_one] at this
  exact this

def TPRel (w : World) (ps : List (List Cd)) (kv : Value) (wr : World) : Prop :=
  ∃ (k : Nat) (As : Nat → Option Addr) (cs bs : Nat → Nat) (vs : List Value), k ≤ ps.length ∧ kv = .int .i64 k ∧ PPart wr w.heap.size w.heap.size ps As cs bs vs k ∧ bs k = wr.heap.size ∧ (∀ j, j ≤ k → bs j ≤ wr.heap.size) ∧ Below w.heap.size w wr ∧ w.heap.size < wr.heap.size

set_option maxRecDepth 100000 in
set_option maxHeartbeats 4000000 in
theorem toCodeSS_c {As0 : Nat → Option Addr} {cs0 : Nat → Nat} (P : Option Addr) (pc : Nat) (ps : List (List Cd)) (w : World) (hP : RdP w w.heap.size P As0 cs0 ps) (hl : ps.length ≤ 1048576) (hls : ∀ i, i < ps.length → (ps.getD i []).length ≤ 1048576) :
    Calls Tryz.prog 28 #[.slice P ps.length pc] w fun e w' => ∃ (As : Nat → Option Addr) (cs bs : Nat → Nat), e = .returned (.slice (some ⟨w.heap.size, 0, none⟩) ps.length ps.length) ∧ OwP w' w.heap.size w'.heap.size w.heap.size As cs bs ps ∧ Below w.heap.size w w' := by
  have hmk := make_progs2 ps.length (by omega)
  have HLS := Lib.hid hls
  clear hls
  go_enter Tryz.func28, Tryz.ntmps28
  go_wp2
  have hz := zeroRow_size (.slice none 0 0) ps.length
  have ho := OR.lit w w.heap.size 27 1 ps.length (zeroRow (.slice none 0 0) ps.length) (Nat.le_refl _) (by omega) (by rw [hz]; omega)
  have e : (zeroRow (.slice none 0 0) ps.length).toList = List.replicate ps.length (.slice none 0 0) := toList_madeCells_one _ _
  rw [e] at ho
  have hb0 : Below w.heap.size w (w.alloc (.cells (zeroRow (.slice none 0 0) ps.length) 27)) := (by repeat (first | exact Below.refl _ _ | assumption | refine Below.alloc ?_ (by simp <;> omega) _ | refine Below.setCell ?_ (by simp <;> omega) _ | refine Below.drew ?_))
  have hs0 : w.heap.size < (w.alloc (.cells (zeroRow (.slice none 0 0) ps.length) 27)).heap.size := by simp
  have hP0 : PPart (w.alloc (.cells (zeroRow (.slice none 0 0) ps.length) 27)) w.heap.size w.heap.size ps (fun _ => none) (fun _ => 0) (fun _ => (w.alloc (.cells (zeroRow (.slice none 0 0) ps.length) 27)).heap.size) (List.replicate ps.length (.slice none 0 0)) 0 :=
    ⟨ho, fun j hj => by omega, fun j _ hj => by rw [List.getElem?_replicate, if_pos hj]⟩
  clear hmk hz ho e
  generalize w.alloc (.cells (zeroRow (.slice none 0 0) ps.length) 27) = w1 at *
  go_loopw [4] (fun kv wr => TPRel w ps kv wr) (fun kv _ => ps.length - (intOf kv).toNat)
  case atStart => exact ⟨0, _, _, _, _, Nat.zero_le _, rfl, hP0, rfl, fun j _ => Nat.le_refl _, hb0, hs0⟩
  case round =>
    clear hP0 hb0 hs0
    obtain ⟨k, As, cs, bs, vs, hk, rfl, hPP, hbk, hbs, hb, hs⟩ := hrel
    have HBK := Lib.hid hbk
    have HBS := Lib.hid hbs
    clear hbk hbs
    by_cases hlt : k < ps.length
    · have hkI : (k : Int) < (ps.length : Int) := by omega
      have hPr := (hP.below hb).more hb.size
      obtain ⟨qb, qo, rfl, hqB, p0⟩ := hPr.at_ hlt
      have hin := hPr.inn k hlt
      have hpl := HLS.out k hlt
      have HPP := Lib.hid hPP
      clear hPP hPr
      generalize hp : ps.getD k [] = p at *
      have HPE := Lib.hid hp
      clear hp
      go_wp2_with fail
      refine (toCodeS_c (As0 k) (cs0 k) p wr hin (by omega)).mono ?_
      rintro e w2 ⟨A', rfl, ho2, hb2⟩
      have hP2 := HPP.out.below hb2
      obtain ⟨cur, hblk⟩ := OR.heap_ hP2.own
      have f0 := free_of_heap hblk k
      have hthere := (OR.at0 hP2.own).1
      have hb3 := below_trans hb (Nat.le_refl _) hb2
      have hs2 := hb2.size
      have hput0 := hP2.put hlt (A' := A') (c' := p.length) (nb := w2.heap.size) (by rw [HBK.out, HPE.out]; exact ho2) (by rw [HBK.out]; exact hs) (by rw [HBK.out]; exact hs2) (fun q hq => by rw [HPE.out] at hq; exact (OR.block ho2 q hq).2)
      rw [HPE.out] at hput0
      have hput := Lib.hid hput0
      clear hput0
      have hc0 : ∃ u, w2.cell? ⟨w.heap.size, k, none⟩ = some u := OR.some_cell hP2.own k (by omega)
      obtain ⟨u0, hu0⟩ := hc0
      clear hthere ho2 hP2 hblk HPP
      go_wp2
      obtain ⟨vs', hP4⟩ := hput.out
      have hb4 : Below w.heap.size w (w2.setCell ⟨w.heap.size, k, none⟩ (.slice A' p.length p.length)) := hb3.setCell (Nat.le_refl _) _
      have hsz : (w2.setCell ⟨w.heap.size, k, none⟩ (.slice A' p.length p.length)).heap.size = w2.heap.size := size_set _ _ _
      refine ⟨⟨k + 1, _, _, _, vs', by omega, by go_num, hP4, by rw [hsz, if_pos rfl], fun j hj => ?_, hb4, by rw [hsz]; omega⟩, ?_⟩
      · rw [hsz]
        by_cases e : j = k + 1
        · rw [if_pos e]; exact Nat.le_refl _
        · rw [if_neg e]; have := HBS.out j (by omega); omega
      · simp [intOf]; omega
    · obtain rfl : k = ps.length := by omega
      have hD := Lib.hid (hPP.done (hi := wr.heap.size) HBS.out hs)
      clear hPP
      go_wp2
      go_ret
      exact ⟨As, cs, bs, rfl, hD.out, hb⟩
end Go.Proofs.YtakeacndmnnbmaaGreat
