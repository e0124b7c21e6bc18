/- Graphs in memory; what is used behind an instruction. -/
import Derived.Test.YtakeacndmnnbmaaGreatMem
import Derived.Test.YtakeacndmnnbmaaGreatMem2
import Derived.Test.YtakeacndmnnbmaaGreatLive0
import Derived.Test.YtakeacndmnnbmaaGreatEnds
import Derived.Test.YtakeacndmnnbmaaGreatValid1
import Derived.Test.YtakeacndmnnbmaaGreatReads
import Derived.IntWalk
namespace Go.Proofs.YtakeacndmnnbmaaGreat
open Go.RowKit
set_option linter.unusedVariables false
set_option linter.unusedSimpArgs false

/-- The successors of a place, as numbers. -/
def succI (l : List Cd) (k : Nat) : List Int := if k < l.length then (succs l k).map (fun (t : Nat) => (t : Int)) else []
theorem succI_lt {l : List Cd} {k : Nat} (h : k < l.length) : succI l k = (succs l k).map (fun (t : Nat) => (t : Int)) := by unfold succI; rw [if_pos h]
theorem succI_end (l : List Cd) : succI l l.length = [] := by unfold succI; rw [if_neg (by omega)]
/-- A slice of n slices of numbers is read. -/
def GRd (w : World) (B : Nat) (A : Option Addr) (f : Nat → List Int) (n : Nat) : Prop :=
  ∃ vs, Reads w B 1 A n vs ∧ ∀ k, k < n → ∃ A' c', vs[k]? = some (.slice A' (f k).length c') ∧ RdI w B A' (f k)
theorem GRd.below {w w' : World} {B n : Nat} {A : Option Addr} {f : Nat → List Int} (h : GRd w B A f n) (hb : Below B w w') : GRd w' B A f n := by
  obtain ⟨vs, h1, h2⟩ := h
  refine ⟨vs, h1.below hb, fun k hk => ?_⟩
  obtain ⟨A', c', e, hr⟩ := h2 k hk
  exact ⟨A', c', e, hr.below hb⟩
theorem GRd.more {w : World} {B B' n : Nat} {A : Option Addr} {f : Nat → List Int} (h : GRd w B A f n) (hB : B ≤ B') : GRd w B' A f n := by
  obtain ⟨vs, h1, h2⟩ := h
  refine ⟨vs, h1.more hB, fun k hk => ?_⟩
  obtain ⟨A', c', e, hr⟩ := h2 k hk
  exact ⟨A', c', e, hr.more hB⟩
theorem GRd.at_ {w : World} {B n : Nat} {A : Option Addr} {f : Nat → List Int} (h : GRd w B A f n) {k : Nat} (hk : k < n) :
    ∃ b off A' c', A = some ⟨b, off, none⟩ ∧ b < B ∧ w.cell? ⟨b, off + k, none⟩ = some (.slice A' (f k).length c') ∧ RdI w B A' (f k) := by
  obtain ⟨vs, h1, h2⟩ := h
  obtain ⟨A', c', e, hr⟩ := h2 k hk
  obtain ⟨b, off, eA, hb, hc⟩ := h1.2 (by omega)
  exact ⟨b, off, A', c', eA, hb, hc k _ e, hr⟩
/-- A row of own rows of numbers. -/
def GOw (w : World) (base : Nat) (A : Option Addr) (n c : Nat) (f : Nat → List Int) (m : Nat) : Prop :=
  ∃ vs, OR w base 23 1 A n c vs ∧ ∀ k, k < m → ∃ A' c', vs[k]? = some (.slice A' (f k).length c') ∧ OI w base A' (f k).length c' (f k)
theorem GOw.below {w w' : World} {base n c m B : Nat} {A : Option Addr} {f : Nat → List Int} (h : GOw w base A n c f m) (hb : Below B w w') (hB : w.heap.size ≤ B) : GOw w' base A n c f m := by
  obtain ⟨vs, h1, h2⟩ := h
  refine ⟨vs, h1.below hb hB, fun k hk => ?_⟩
  obtain ⟨A', c', e, hr⟩ := h2 k hk
  exact ⟨A', c', e, OR.below hr hb hB⟩
theorem GOw.mono {w : World} {base base' n c m : Nat} {A : Option Addr} {f : Nat → List Int} (h : GOw w base A n c f m) (hb : base' ≤ base) : GOw w base' A n c f m := by
  obtain ⟨vs, h1, h2⟩ := h
  refine ⟨vs, h1.mono hb, fun k hk => ?_⟩
  obtain ⟨A', c', e, hr⟩ := h2 k hk
  exact ⟨A', c', e, OR.mono hr hb⟩
theorem GOw.rd {w : World} {base c n : Nat} {A : Option Addr} {f : Nat → List Int} (h : GOw w base A n c f n) : GRd w w.heap.size A f n := by
  obtain ⟨vs, h1, h2⟩ := h
  refine ⟨vs, h1.reads, fun k hk => ?_⟩
  obtain ⟨A', c', e, hr⟩ := h2 k hk
  exact ⟨A', c', e, OI.rd hr⟩
/-- The row of sets. -/
def lvRow (s : Nat → Nat) (n : Nat) : List Int := (List.range n).map fun k => (s k : Int)
theorem lvRow_len (s : Nat → Nat) (n : Nat) : (lvRow s n).length = n := by simp [lvRow]
theorem lvRow_get (s : Nat → Nat) {n k : Nat} (h : k < n) : (lvRow s n)[k]? = some (s k : Int) := by simp [lvRow, h]
theorem lvRow_set (s : Nat → Nat) (n k v : Nat) : (lvRow s n).set k (v : Int) = lvRow (upd s k v) n := by
  apply List.ext_getElem?
  intro j
  rw [List.getElem?_set, lvRow_len]
  by_cases hj : j < n
  · rw [lvRow_get s hj, lvRow_get (upd s k v) hj]
    unfold upd
    by_cases e : k = j
    · subst e
      rw [if_pos rfl, if_pos hj, if_pos rfl]
    · rw [if_neg e, if_neg (fun h => e h.symm)]
  · have h2 : (lvRow (upd s k v) n)[j]? = none := List.getElem?_eq_none (by rw [lvRow_len]; omega)
    rw [h2]
    by_cases e : k = j
    · subst e
      rw [if_pos rfl, if_neg hj]
    · rw [if_neg e]
      exact List.getElem?_eq_none (by rw [lvRow_len]; omega)

def outTo (l : List Cd) (s : Nat → Nat) (k j : Nat) : Nat := ((succs l k).take j).foldl (fun m t => m ||| s t) 0
theorem outTo_succ {l : List Cd} {s : Nat → Nat} {k j t : Nat} (h : (succs l k)[j]? = some t) : outTo l s k (j + 1) = outTo l s k j ||| s t := by
  obtain ⟨hj, rfl⟩ := List.getElem?_eq_some_iff.1 h
  unfold outTo
  rw [List.take_succ_eq_append_getElem hj, List.foldl_append]
  rfl
theorem outTo_all (l : List Cd) (s : Nat → Nat) (k : Nat) : outTo l s k (succs l k).length = outSet l s k := by
  unfold outTo outSet
  rw [List.take_length]
theorem outTo_lt {s : Nat → Nat} (h : ∀ k, s k < 16) (l : List Cd) (k j : Nat) : outTo l s k j < 16 := fold_or_lt h _ _ (by decide)

set_option maxRecDepth 100000 in
set_option maxHeartbeats 4000000 in
theorem l19Out_c (A AL : Option Addr) (c cL : Nat) (l : List Cd) (s : Nat → Nat) (k : Nat) (w : World) (hG : GRd w w.heap.size A (succI l) (l.length + 1)) (hL : RdI w w.heap.size AL (lvRow s (l.length + 1)))
    (hp : pv l = true) (hk : k < l.length) (hs : ∀ k, s k < 16) :
    Calls Tryz.prog 116 #[.slice A (l.length + 1) c, .slice AL (l.length + 1) cL, .int .i64 k] w fun e w' => e = .returned (.int .i64 (outSet l s k)) ∧ Below w.heap.size w w' := by
  have h40 := (pv_iff.1 hp).1
  obtain ⟨b, off, A', c', rfl, hbB, g0, hr⟩ := hG.at_ (k := k) (by omega)
  have hle := succs_le hp hk
  have hsl : (succI l k).length = (succs l k).length := by rw [succI_lt hk, List.length_map]
  have htwo := succs_two l k
  rw [hsl] at g0
  have hle' := Lib.hid hle
  clear hle
  go_enter Tryz.func116, Tryz.ntmps116
  go_wp2
  go_loopw [7, 8] (fun sv iv wr => ∃ j : Nat, j ≤ (succs l k).length ∧ iv = .int .i64 j ∧ sv = .int .i64 (outTo l s k j) ∧ Below w.heap.size w wr) (fun _ i _ => (succs l k).length - (intOf i).toNat)
  case atStart => exact ⟨0, Nat.zero_le _, rfl, rfl, Below.refl _ _⟩
  case round =>
    obtain ⟨j, hj, rfl, rfl, hb⟩ := hrel
    have g1 := cell_kept hb g0
    by_cases hlt : j < (succs l k).length
    · have ht : (succs l k)[j]? = some ((succs l k)[j]) := List.getElem?_eq_getElem hlt
      generalize (succs l k)[j] = t at ht
      have htl : t ≤ l.length := hle'.out t (List.mem_of_getElem? ht)
      have htI : (succI l k)[j]? = some (t : Int) := by rw [succI_lt hk, List.getElem?_map, ht]; rfl
      obtain ⟨b2, off2, y, rfl, _, hy, g2⟩ := (hr.below hb).at_ (k := j) (by omega)
      rw [htI] at hy
      injection hy with hy
      subst hy
      obtain ⟨b3, off3, y, rfl, _, hy, g3⟩ := (hL.below hb).at_ (k := t) (by rw [lvRow_len]; omega)
      rw [lvRow_get s (by omega)] at hy
      injection hy with hy
      subst hy
      have hst := hs t
      have hot := outTo_lt hs l k j
      have HE := Lib.hid (outTo_succ (s := s) ht)
      have hor := or16 hot hst
      have htn : (t : Int) < ((l.length + 1 : Nat) : Int) := by omega
      clear ht htI
      go_wp2
      go_roundw
      case rel => exact ⟨j + 1, by omega, by go_num, by rw [HE.out], hb⟩
      case measure => simp [intOf]; omega
    · obtain rfl : j = (succs l k).length := by omega
      go_wp2
      go_ret
      exact ⟨reti (by rw [outTo_all]), hb⟩

theorem succI_succ {l : List Cd} {k : Nat} (hk : k < l.length) : succI l k =
    if opAt l k == 11 || opAt l k == 13 then (if overN l k = k + 1 then [((k : Int) + 1)] else [((k : Int) + 1), (overN l k : Int)])
    else if opAt l k == 12 then [((endN l (aroundN l k) : Int) + 1)]
    else if opAt l k == 14 then (if opAt l (aroundN l k) == 13 then [((aroundN l k : Int) + 1), ((k : Int) + 1)] else [((k : Int) + 1)])
    else [((k : Int) + 1)] := by
  rw [succI_lt hk]
  unfold succs
  repeat' split
  all_goals simp

theorem int_lit (w : World) (B : Nat) (hB : B ≤ w.heap.size) (x : Int) : OI (w.alloc (.cells #[.int .i64 x] 3)) B (some ⟨w.heap.size, 0, none⟩) 1 1 [x] := OR.lit w B 3 1 1 #[.int .i64 x] hB (by omega) rfl
theorem int_lit2 (w : World) (B : Nat) (hB : B ≤ w.heap.size) (x y : Int) : OI (w.alloc (.cells #[.int .i64 x, .int .i64 y] 3)) B (some ⟨w.heap.size, 0, none⟩) 2 2 [x, y] := OR.lit w B 3 1 2 #[.int .i64 x, .int .i64 y] hB (by omega) rfl

/-- One row more. -/
theorem GOw.snoc {w w2 : World} {base n c : Nat} {A A' A2 : Option Addr} {c' c2 : Nat} {f : Nat → List Int} {vs : List Value} (h1 : OR w base 23 1 A n c vs) (h2 : ∀ k, k < n → ∃ A' c', vs[k]? = some (.slice A' (f k).length c') ∧ OI w base A' (f k).length c' (f k)) (hi : OI w base A' (f n).length c' (f n)) (hB : base ≤ w.heap.size)
    (hg : (w.alloc (.cells #[.slice A' (f n).length c'] 23)).grownBy w2 (Value.ownBlock (.slice A n c)))
    (ho : OR w2 base 23 1 A2 (n + 1) c2 (vs ++ [.slice A' (f n).length c'])) : GOw w2 base A2 (n + 1) c2 f (n + 1) := by
  have hl : vs.length = n := by have := h1.len; omega
  have kp : ∀ {A'' : Option Addr} {n'' c'' : Nat} {xs : List Int}, OI w base A'' n'' c'' xs → OI w2 base A'' n'' c'' xs := fun {A'' n'' c'' xs} hx => by
    have hx1 : OI (w.alloc (.cells #[.slice A' (f n).length c'] 23)) base A'' n'' c'' xs := OR.alloc hx _
    rcases hx1.2 with ⟨hv, hn⟩ | ⟨g, cap, cur, hv, _, hgb, _⟩
    · exact ⟨hx.1, .inl ⟨hv, hn⟩⟩
    · refine OR.kept hx1 hg (.inr fun e => ?_)
      rw [hv] at e
      have e' : Value.ownBlock (.slice A n c) = some g := e.symm
      exact own_ne (h1.alloc (.cells #[.slice A' (f n).length c'] 23)) hgb (by decide) e'
  refine ⟨_, ho, fun k hk => ?_⟩
  by_cases e : k = n
  · subst e
    exact ⟨A', c', by rw [List.getElem?_append_right (by omega), hl, Nat.sub_self]; rfl, kp hi⟩
  · obtain ⟨B', d', e1, e2⟩ := h2 k (by omega)
    exact ⟨B', d', by rw [List.getElem?_append_left (by omega)]; exact e1, kp e2⟩

section
variable {w : World} {ops : Array Oper} {rest : List Oper} {o : Oper} {a : Act} {Q : Exit → Act → World → Prop}
/-- append of one row of numbers. -/
theorem app_g (hgd : o.guard = none) (s x : Operand) (ho : o.op = .call { callee := .builtin .append, args := #[s, x], argTypes := #[75, 75] })
    (base : Nat) (A : Option Addr) (n c : Nat) (f : Nat → List Int) (hs : a.eval s = .slice A n c)
    (A' : Option Addr) (nn c' : Nat) (wb : World) (hwb : w = wb.alloc (.cells #[.slice A' nn c'] 23)) (gb : Nat) (hgb : gb = wb.heap.size) (hx : a.eval x = .slice (some ⟨gb, 0, none⟩) 1 1)
    (hw : GOw wb base A n c f n) (hnn : nn = (f n).length) (hi : OI wb base A' (f n).length c' (f n)) (hn : n + 1 ≤ 1000000000000) (hbase : base ≤ wb.heap.size)
    (hK : ∀ A2 c2 w2, GOw w2 base A2 (n + 1) c2 f (n + 1) → w.grownBy w2 (Value.ownBlock (.slice A n c)) → wpList Tryz.prog ops Q rest (a.put o.dst (.slice A2 (n + 1) c2)) w2) :
    wpList Tryz.prog ops Q (o :: rest) a w := by
  subst hwb hnn hgb
  obtain ⟨vs, h1, h2⟩ := hw
  refine app_row 75 23 _ 1 24 Tryz.underlying75 infoRows rfl (by decide) (by decide) hgd s x ho base A n c vs (h1.alloc _) hs wb.heap.size 1 1 [.slice A' (f n).length c'] hx rfl (fun j u hu => ?_) (by intro u hu; simp at hu; subst hu; rfl) (by omega) (by simp; omega) (fun A2 c2 w2 hr hg => hK A2 c2 w2 (GOw.snoc h1 h2 hi hbase hg hr) hg)
  match j, hu with
  | 0, hu => simp at hu; subst hu; simp [go_sem]
end

/-- A graph is returned. -/
def RetG (w : World) (l : List Cd) (e : Ending) (w' : World) : Prop :=
  ∃ A c, e = .returned (.slice A (l.length + 1) c) ∧ GOw w' w.heap.size A (l.length + 1) c (succI l) (l.length + 1) ∧ Below w.heap.size w w'

end Go.Proofs.YtakeacndmnnbmaaGreat
