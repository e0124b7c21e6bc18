/- Part 11 of what the claim needs. -/
import Derived.Test.YtelbfeidpcojmaaGreatSa7
import Derived.Test.YtelbfeidpcojmaaGreatSa9
import Derived.Test.YtelbfeidpcojmaaGreatSa10
import Derived.Deep.Cut
import Derived.Maps.AppendAt
namespace Go.Proofs.YtelbfeidpcojmaaGreat
open Go.RowKit
set_option linter.unusedVariables false
set_option linter.unusedSimpArgs false

/-- The crowd behind the first t lanes of a group that begins at lane lo. -/
def runIn (l : List Cd) (c : Cw) (lo mk : Nat) : Nat → Cw
  | 0 => c
  | t + 1 => if mk.testBit t then stepIf l (runIn l c lo mk t) (lo + t) else runIn l c lo mk t
theorem stepIf_lane {l : List Cd} {c : Cw} {k j : Nat} (h : j ≠ k) : (stepIf l c k).lane j = c.lane j := by
  unfold stepIf
  split
  · exact lane_stepAt h
  · rfl
theorem runIn_lane {l : List Cd} {c : Cw} {lo mk : Nat} : ∀ t j, t ≤ j → (runIn l c lo mk t).lane (lo + j) = c.lane (lo + j)
  | 0, _, _ => rfl
  | t + 1, j, h => by
    simp only [runIn]
    split
    · rw [stepIf_lane (by omega), runIn_lane t j (by omega)]
    · exact runIn_lane t j (by omega)
theorem runIn_ok {l : List Cd} (hp : pv l = true) {n : Nat} (n8 : n ≤ 8) {c : Cw} (h : CwOk l n c) {lo mk cnt : Nat} (hlc : lo + cnt ≤ n) : ∀ t, t ≤ cnt → CwOk l n (runIn l c lo mk t) ∧ (runIn l c lo mk t).mem.length = c.mem.length
  | 0, _ => ⟨h, rfl⟩
  | t + 1, ht => by
    obtain ⟨h1, h2⟩ := runIn_ok hp n8 h (mk := mk) hlc t (by omega)
    simp only [runIn]
    split
    · obtain ⟨h3, h4⟩ := stepIf_ok hp n8 h1 (show lo + t < n by omega)
      exact ⟨h3, h4.trans h2⟩
    · exact ⟨h1, h2⟩
theorem partL_mem {lo cnt k : Nat} : k ∈ partL lo cnt ↔ lo ≤ k ∧ k < lo + cnt := by
  unfold partL
  simp only [List.mem_map, List.mem_range]
  constructor
  · rintro ⟨a, ha, rfl⟩; omega
  · rintro ⟨h1, h2⟩; exact ⟨k - lo, by omega, by omega⟩
theorem relM_bit {l : List Cd} {c : Cw} {lo cnt t : Nat} (ht : t < cnt) : (relM l c lo cnt).testBit t = (goesL l (c.lane (lo + t)) && decide ((c.lane (lo + t)).pos = leastP l c (partL lo cnt))) := by
  unfold relM
  rw [maskL_bit, Bool.eq_iff_iff]
  simp only [decide_eq_true_eq, List.mem_map, Bool.and_eq_true]
  constructor
  · rintro ⟨k, hk, rfl⟩
    have h1 := (partL_mem.1 (among_sub hk).1).1
    have h2 := (List.mem_filter.1 hk).2
    rw [show lo + (k - lo) = k by omega]
    simpa using h2
  · rintro ⟨h1, h2⟩
    exact ⟨lo + t, List.mem_filter.2 ⟨partL_mem.2 (by omega), by simp [h1, h2]⟩, by omega⟩
theorem among_fold {l : List Cd} {c : Cw} {lo : Nat} (q : Nat → Bool) : ∀ (cnt : Nat) (mk : Nat), (∀ t, t < cnt → mk.testBit t = q (lo + t)) → ((partL lo cnt).filter q).foldl (stepIf l) c = runIn l c lo mk cnt
  | 0, _, _ => rfl
  | t + 1, mk, h => by
    rw [partL_snoc, List.filter_append, List.foldl_append, among_fold q t mk (fun j hj => h j (by omega))]
    simp only [runIn, h t (by omega)]
    cases hq : q (lo + t) with
    | true => simp [hq]
    | false => simp [hq]
theorem runIn_step {l : List Cd} {c : Cw} (lo cnt : Nat) : stepG l c (partL lo cnt) = passC l (runIn l c lo (relM l c lo cnt) cnt) := by
  unfold stepG
  have hn : (amongL l c (partL lo cnt)).Nodup := by
    have h0 : (partL lo cnt).Nodup := by
      unfold partL
      exact List.pairwise_map.2 (List.nodup_range.imp (fun h e => h (by omega)))
    exact h0.filter _
  rw [← steps_go (amongL l c (partL lo cnt)) c hn (fun k hk => (among_sub hk).2)]
  unfold amongL
  rw [among_fold (fun k => goesL l (c.lane k) && decide ((c.lane k).pos = leastP l c (partL lo cnt))) cnt (relM l c lo cnt) (fun t ht => relM_bit ht)]
theorem part_range : ∀ lo, lo < 9 → ∀ cnt, cnt < 9 → lo + cnt ≤ 8 → (List.range 8).filter (fun k => decide (lo ≤ k ∧ k < lo + cnt)) = (List.range cnt).map (lo + ·) := by decide
theorem all_part {n : Nat} (n8 : n ≤ 8) (i : Nat) : allSch n i = partL 0 n := by
  unfold allSch partL
  rw [← part_range 0 (by omega) n (by omega) (by omega)]
  unfold lanesOf
  apply List.filter_congr
  intro k _
  rw [Nat.testBit_two_pow_sub_one, Bool.eq_iff_iff]
  simp
/-- Some lane goes: the least place is one of the program. -/
theorem least_lt {l : List Cd} {n : Nat} {c : Cw} (h : CwOk l n c) (hn : NrmC l c) (ho : overC l c = false) : leastP l c (partL 0 n) < l.length := by
  rcases hn with hg | ⟨ho2, -⟩
  · obtain ⟨k, hk, hgk⟩ := go_of h hg
    have h1 := (leastP_le l c (partL 0 n)).2 k (partL_mem.2 (by omega)) hgk
    have h2 := (goes_pos hgk).2
    omega
  · rw [ho] at ho2; cases ho2


def StP (w : World) (B mb mn mc : Nat) (s' : Ln) (m' : List Int) (e : Ending) (w' : World) : Prop :=
  ∃ r rc t tc, e = .returned (lnV (some ⟨r, 0, none⟩) rc (some ⟨t, 0, none⟩) tc s') ∧ LnO w' w.heap.size r rc t tc s' ∧ OI w' B (some ⟨mb, 0, none⟩) mn mc m' ∧ w.grownBy w' (some mb)
theorem fin_pack {w wF : World} {B wb mb mn mc r rc t tc : Nat} {s' : Ln} {m' : List Int} (hwb : w.heap.size = wb) (hE : w.grownBy wF (some mb)) (hr : OI wF (wb + 2) (some ⟨r, 0, none⟩) 4 rc s'.regs) (ht : OI wF (wb + 2) (some ⟨t, 0, none⟩) s'.turns.length tc s'.turns) (hne : r ≠ t)
    (hM : OI wF B (some ⟨mb, 0, none⟩) mn mc m') (hmb : mb < wb) : StP w B mb mn mc s' m' (.returned (lnV (some ⟨r, 0, none⟩) rc (some ⟨t, 0, none⟩) tc s')) (wF.setRow (wb + 1) #[.slice (some ⟨r, 0, none⟩) 4 rc, .int .i64 s'.pos, .slice (some ⟨t, 0, none⟩) s'.turns.length tc, .bool s'.waits]) := by
  have hg := grown_setRow (w := wF) (wb + 1) #[.slice (some ⟨r, 0, none⟩) 4 rc, .int .i64 s'.pos, .slice (some ⟨t, 0, none⟩) s'.turns.length tc, .bool s'.waits]
  have l1 := (OR.base_le hr).1
  have l2 := (OR.base_le ht).1
  exact ⟨r, rc, t, tc, rfl, ⟨OR.mono (OI.kept_ne hr hg (by omega)) (by omega), OR.mono (OI.kept_ne ht hg (by omega)) (by omega), hne⟩, OI.kept_ne hM hg (by omega), grown_then hE hg (by omega)⟩
theorem OI.raise {w : World} {base base' g n c : Nat} {xs : List Int} (h : OI w base (some ⟨g, 0, none⟩) n c xs) (hb : base' ≤ g) : OI w base' (some ⟨g, 0, none⟩) n c xs := by
  refine ⟨h.1, ?_⟩
  rcases h.2 with ⟨hv, _⟩ | ⟨g2, cap, cur, hv, _, hr⟩
  · cases hv
  · have e : g = g2 := by
      injection hv with hv _ _
      injection hv with hv
      injection hv
    exact .inr ⟨g2, cap, cur, hv, by omega, hr⟩
theorem OI.dropL {w : World} {base t c : Nat} {xs : List Int} (h : OI w base (some ⟨t, 0, none⟩) xs.length c xs) : OI w base (some ⟨t, 0, none⟩) xs.dropLast.length c xs.dropLast := by
  rw [List.length_dropLast]
  have h1 := OR.take_ h (m := xs.length - 1) (by omega)
  have e2 : (xs.map (Value.int .i64)).take ((xs.length - 1) * 1) = xs.dropLast.map (Value.int .i64) := by
    rw [Nat.mul_one, List.dropLast_eq_take, List.map_take]
  rw [e2] at h1
  exact h1
theorem OI.setC {w : World} {base t n c : Nat} {xs : List Int} (h : OI w base (some ⟨t, 0, none⟩) n c xs) (j : Nat) (v : Int) : OI (w.setCell ⟨t, j, none⟩ (.int .i64 v)) base (some ⟨t, 0, none⟩) n c (xs.set j v) := by
  have := (OR.at0 h).2.2 j (.int .i64 v)
  unfold OI
  rw [List.map_set]
  exact this
theorem free_own {w : World} {base t n c : Nat} {xs : List Int} (h : OI w base (some ⟨t, 0, none⟩) n c xs) (j : Nat) : w.frozen? ⟨t, j, none⟩ = false := by
  obtain ⟨cur, hc⟩ := OR.heap_ h
  exact free_of_heap hc _
theorem grown_ext {w w1 w2 : World} {r : Option Nat} (h : w.grownBy w1 r) (hx : Ext w1 w2) : w.grownBy w2 r :=
  ⟨hx.os.trans h.os, hx.tape.trans h.tape, hx.output.trans h.output, Nat.le_trans h.size hx.size, fun k hk hne => (hx.block k (Nat.lt_of_lt_of_le hk h.size)).trans (h.block k hk hne)⟩
theorem RdI.atk {w : World} {B b off : Nat} {xs : List Int} (h : RdI w B (some ⟨b, off, none⟩) xs) {k : Nat} {x : Int} (hx : xs[k]? = some x) : b < B ∧ w.cell? ⟨b, off + k, none⟩ = some (.int .i64 x) := by
  have hk := (List.getElem?_eq_some_iff.1 hx).1
  obtain ⟨b', off', y, e, hb, hy, hc⟩ := h.at_ hk
  injection e with e
  injection e with e1 e2 _
  subst e1 e2
  rw [hx] at hy
  injection hy with hy
  subst hy
  exact ⟨hb, hc⟩
section
variable {w : World} {ops : Array Oper} {rest : List Oper} {o : Oper} {a : Act} {Q : Exit → Act → World → Prop}
theorem app_int_at (hgd : o.guard = none) (s x : Operand) (ho : o.op = .call { callee := .builtin .append, args := #[s, x], argTypes := #[24, 24] })
    (base t n c : Nat) (xs : List Int) (hown : OI w base (some ⟨t, 0, none⟩) n c xs) (hs : a.eval s = .slice (some ⟨t, 0, none⟩) n c)
    (y : Int) (g cc : Nat) (hx : a.eval x = .slice (some ⟨g, 0, none⟩) 1 cc) (hc : w.cell? ⟨g, 0, none⟩ = some (.int .i64 y)) (hn : n < 1000000) (hbase : base ≤ w.heap.size)
    (hK : ∀ t' c' w', OI w' base (some ⟨t', 0, none⟩) (n + 1) c' (xs ++ [y]) → w.grownBy w' (some t) → (t' = t ∨ t' = w.heap.size) → wpList Tryz.prog ops Q rest (a.put o.dst (.slice (some ⟨t', 0, none⟩) (n + 1) c')) w') :
    wpList Tryz.prog ops Q (o :: rest) a w := by
  obtain ⟨i0, hi, hz0, hz1, hz2⟩ := info_parts infoInt
  refine wpList_append_own_at w hgd s x 24 ho base 3 i0 _ 1 8 Tryz.underlying24 hi hz0 hz1 hz2 rfl (by omega) (.slice (some ⟨t, 0, none⟩) n c) n _ hs hown ⟨g, 0, none⟩ 1 cc [.int .i64 y] hx rfl
    (by
      intro j u hu
      match j, hu with
      | 0, hu => simp at hu; subst hu; exact hc)
    (by intro u hu; simp at hu; subst hu; rfl) (by unfold maxLen; omega) (by omega) hbase ?_
  intro v' w' h2 h3 h4 h5
  obtain ⟨A', c', rfl, h'⟩ := OR.slice_ h2
  have hpos : 0 < n + 1 := by omega
  obtain ⟨t', rfl, -⟩ := OR.at_ h' hpos
  refine hK t' c' w' (by unfold OI; rw [List.map_append]; exact h') h3 ?_
  rcases h5 with h5 | h5
  · left; simpa [Value.ownBlock] using h5
  · right; simpa [Value.ownBlock] using h5
end

theorem simp1_move {x : Cd} {id : Nat} {r m : List Int} (h : 10 ≤ x.op) : simp1 x id r m = (r, m) := by
  have e : ∀ j : Int, j ≤ 9 → (x.op == j) = false := fun j hj => beq_eq_false_iff_ne.2 (by omega)
  simp [simp1, e 1 (by decide), e 2 (by decide), e 3 (by decide), e 4 (by decide), e 5 (by decide), e 6 (by decide), e 7 (by decide), e 8 (by decide), e 9 (by decide)]
theorem stepL_move {l : List Cd} {s : Ln} {id : Nat} {m : List Int} {x : Cd} (hx : cdAt l s.pos = x) (h : 10 ≤ x.op) : stepL l id s m = (⟨s.regs, (nextP l s.regs s.pos s.turns).1, (nextP l s.regs s.pos s.turns).2, x.op == 10⟩, m) := by
  unfold stepL
  rw [hx, simp1_move h]
theorem stepL_simple {l : List Cd} {s : Ln} {id : Nat} {m : List Int} {x : Cd} (hx : cdAt l s.pos = x) (h : x.op ≤ 10) : stepL l id s m = (⟨(simp1 x id s.regs m).1, s.pos + 1, s.turns, x.op == 10⟩, (simp1 x id s.regs m).2) := by
  have e := next_op (l := l) (q := s.pos) (r := s.regs) (ts := s.turns) (by rw [hx]; exact h)
  unfold stepL
  rw [e, hx]
theorem np11 {l : List Cd} {q : Nat} {r ts : List Int} {a b c : Int} (h : cdAt l q = ⟨11, a, b, c⟩) : nextP l r q ts = (if rg r a == 0 then overN l q else q + 1, ts) := by
  simp only [nextP, h]; rfl
theorem np12 {l : List Cd} {q : Nat} {r ts : List Int} {a b c : Int} (h : cdAt l q = ⟨12, a, b, c⟩) : nextP l r q ts = (endN l (aroundN l q) + 1, ts) := by
  simp only [nextP, h]; rfl
theorem np13 {l : List Cd} {q : Nat} {r ts : List Int} {a b c : Int} (h : cdAt l q = ⟨13, a, b, c⟩) : nextP l r q ts = if rg r a == 0 then (overN l q, ts) else (q + 1, ts ++ [b - 1]) := by
  simp only [nextP, h]; rfl
theorem np14 {l : List Cd} {q : Nat} {r ts : List Int} {a b c : Int} (h : cdAt l q = ⟨14, a, b, c⟩) : nextP l r q ts = if opAt l (aroundN l q) == 13 then
      (if decide (0 < ts.getLastD 0) && !(rg r (cdAt l (aroundN l q)).a == 0) then (aroundN l q + 1, ts.dropLast ++ [ts.getLastD 0 - 1]) else (q + 1, ts.dropLast))
    else (q + 1, ts) := by
  simp only [nextP, h]; rfl

theorem loop_else2 {l : List Cd} (b : Blk) : ∀ (d p : Nat) (rest : List Cd), b.ok d → l.drop p = b.flat ++ rest → ∀ k, p ≤ k → k < p + b.flat.length → (cdAt l k).op = 13 → (endOf l k).2 = -1 := by
  induction b with
  | nil => intro d p rest _ _ k h1 h2; simp [Blk.flat] at h2; omega
  | op x r ih =>
    intro d p rest ⟨_, _, h10, hr⟩ h k h1 h2 ho
    obtain ⟨e1, e2, _⟩ := drop_cons (show l.drop p = x :: (r.flat ++ rest) from h)
    by_cases e : k = p
    · subst e; rw [cdAt_get e1] at ho; omega
    · exact ih d (p + 1) rest hr e2 k (by omega) (by simp [Blk.flat] at h2; omega) ho
  | iff a t r iht ihr =>
    intro d p rest ⟨_, _, ht, hr⟩ h k h1 h2 ho
    have h' : l.drop p = cIf a :: (t.flat ++ cEnd :: (r.flat ++ rest)) := by rw [h]; simp [Blk.flat]
    obtain ⟨_, g2, g3⟩ := end_iff ht h'
    simp only [Blk.flat, List.length_cons, List.length_append] at h2
    by_cases e : k = p
    · subst e; rw [cdAt_get (drop_cons h').1] at ho; simp [cIf] at ho
    · by_cases e2 : k < p + 1 + t.flat.length
      · exact iht _ _ _ ht g2 k (by omega) e2 ho
      · by_cases e3 : k = p + 1 + t.flat.length
        · subst e3; rw [cdAt_get (drop_cons (drop_skip g2)).1] at ho; simp [cEnd] at ho
        · exact ihr d _ _ hr g3 k (by omega) (by omega) ho
  | ife a t e r iht ihe ihr =>
    intro d p rest ⟨_, _, ht, he, hr⟩ h k h1 h2 ho
    have h' : l.drop p = cIf a :: (t.flat ++ cElse :: (e.flat ++ cEnd :: (r.flat ++ rest))) := by rw [h]; simp [Blk.flat]
    obtain ⟨_, g2, g3, g4⟩ := end_ife ht he h'
    simp only [Blk.flat, List.length_cons, List.length_append] at h2
    by_cases e0 : k = p
    · subst e0; rw [cdAt_get (drop_cons h').1] at ho; simp [cIf] at ho
    · by_cases e2 : k < p + 1 + t.flat.length
      · exact iht _ _ _ ht g2 k (by omega) e2 ho
      · by_cases e3 : k = p + 1 + t.flat.length
        · subst e3; rw [cdAt_get (drop_cons (drop_skip g2)).1] at ho; simp [cElse] at ho
        · by_cases e4 : k < p + t.flat.length + 2 + e.flat.length
          · exact ihe _ _ _ he g3 k (by omega) e4 ho
          · by_cases e5 : k = p + t.flat.length + 2 + e.flat.length
            · subst e5; rw [cdAt_get (drop_cons (drop_skip g3)).1] at ho; simp [cEnd] at ho
            · exact ihr d _ _ hr g4 k (by omega) (by omega) ho
  | loop a c t r iht ihr =>
    intro d p rest ⟨_, _, _, ht, hr⟩ h k h1 h2 ho
    have h' : l.drop p = cLoop a c :: (t.flat ++ cEnd :: (r.flat ++ rest)) := by rw [h]; simp [Blk.flat]
    obtain ⟨g1, g2, g3⟩ := end_iff ht h'
    simp only [Blk.flat, List.length_cons, List.length_append] at h2
    by_cases e : k = p
    · subst e; rw [g1]
    · by_cases e2 : k < p + 1 + t.flat.length
      · exact iht _ _ _ ht g2 k (by omega) e2 ho
      · by_cases e3 : k = p + 1 + t.flat.length
        · subst e3; rw [cdAt_get (drop_cons (drop_skip g2)).1] at ho; simp [cEnd] at ho
        · exact ihr d _ _ hr g3 k (by omega) (by omega) ho
theorem loop_elseAt2 {l : List Cd} (hp : pv l = true) {k : Nat} (hk : k < l.length) (ho : (cdAt l k).op = 13) : elseAt l k = -1 := by
  obtain ⟨_, b, hb, he⟩ := pv_tree.1 hp
  exact loop_else2 b 3 0 [] hb (by simp [he]) k (Nat.zero_le _) (by rw [he]; omega) ho

theorem loop_over {l : List Cd} (hp : pv l = true) {k : Nat} {a b c : Int} (hx : l[k]? = some ⟨13, a, b, c⟩) : overN l k = pEnd l k + 1 := by
  have hk := (List.getElem?_eq_some_iff.1 hx).1
  have h := loop_elseAt2 hp hk (by rw [cdAt_get hx])
  unfold overN
  rw [h, if_neg (by decide)]
  rfl

set_option maxRecDepth 100000 in
set_option maxHeartbeats 16000000 in
theorem l6Step_c (A R T : Option Addr) (ca rc tc : Nat) (l : List Cd) (s : Ln) (id B mb mn mc : Nat) (m : List Int) (w : World) (hA : RdC w w.heap.size A l) (hR : RdI w w.heap.size R s.regs) (hT : RdI w w.heap.size T s.turns) (htc : T = none → tc = 0)
    (hM : OI w B (some ⟨mb, 0, none⟩) mn mc m) (hB : B ≤ w.heap.size) (hml : 1 ≤ mn ∧ mn ≤ 32) (hm : wordsOk m) (hp : pv l = true) (hL : LnOk l s) (hw : s.waits = false) (hlt : s.pos < l.length) (hid : id ≤ 7) :
    Calls Tryz.prog 65 #[lnV R rc T tc s, .slice A l.length ca, .int .i64 id, .slice (some ⟨mb, 0, none⟩) mn mc] w (StP w B mb mn mc (stepL l id s m).1 (stepL l id s m).2) := by
  have hl40 := (pv_iff.1 hp).1
  obtain ⟨htl, htv⟩ := hL.turns hp
  have h4 := hL.four
  have hrw := hL.words
  have hloop := hL.loop_ hp hlt
  have hmb := (OR.base_le hM).2
  obtain ⟨sr, sp, st, sw⟩ := s
  simp only at hw hR hT htl htv h4 hrw hlt hloop
  subst hw
  obtain ⟨Rb, Ro, _, rfl, hRbB, -, -⟩ := hR.at_ (k := 0) (by omega)
  have hX1 := Ext.alloc w (.cells (boxL (some ⟨Rb, Ro, none⟩) rc T tc sp st.length false) 84)
  have hN1 := heap_alloc_new w (.cells (boxL (some ⟨Rb, Ro, none⟩) rc T tc sp st.length false) 84)
  have hX2 := Ext.alloc (w.alloc (.cells (boxL (some ⟨Rb, Ro, none⟩) rc T tc sp st.length false) 84)) (.cells zeroL 84)
  have hN2 := heap_alloc_new (w.alloc (.cells (boxL (some ⟨Rb, Ro, none⟩) rc T tc sp st.length false) 84)) (.cells zeroL 84)
  have hN1' := hX2.heap_ hN1
  have hX := hX1.trans hX2
  have hsz : ((w.alloc (.cells (boxL (some ⟨Rb, Ro, none⟩) rc T tc sp st.length false) 84)).alloc (.cells zeroL 84)).heap.size = w.heap.size + 2 := by simp
  have hsz1 : (w.alloc (.cells (boxL (some ⟨Rb, Ro, none⟩) rc T tc sp st.length false) 84)).heap.size = w.heap.size + 1 := by simp
  rw [hsz1] at hN2
  clear hX1 hX2 hN1 hsz1
  unfold lnV
  go_enter Tryz.func65, Tryz.ntmps65
  go_wp2_with fail
  generalize (w.alloc (.cells (boxL (some ⟨Rb, Ro, none⟩) rc T tc sp st.length false) 84)).alloc (.cells zeroL 84) = w2 at *
  have hR2 := (hR.below hX.below).more hX.size
  have hT2 := (hT.below hX.below).more hX.size
  refine (l6Copy_c (some ⟨Rb, Ro, none⟩) T rc tc ⟨sr, sp, st, false⟩ w2 hR2 h4 hT2 htl htc).mono ?_
  rintro e w1 ⟨r, rc', t, tc', rfl, hO, hb1⟩
  have hX1 := hX.trans (Ext.of_below hb1)
  have hBox := (Ext.of_below hb1).heap_ hN1'
  have hRet := (Ext.of_below hb1).heap_ hN2
  have hA1 := (hA.below hX1.below).more hX1.size
  have hM1 : OI w1 B (some ⟨mb, 0, none⟩) mn mc m := OR.ext hM hX1
  have hT1 := (hT.below hX1.below).more hX1.size
  have hR1 := (hR.below hX1.below).more hX1.size
  have hs1 := hb1.size
  rw [hsz] at hO hs1
  clear hX hN1' hN2 hR2 hT2 hb1 hA hM hR hT hsz
  obtain ⟨ab, ao, x, rfl, habB, hx, a0, a1, a2, a3⟩ := hA1.at_ hlt
  have hcd : cdAt l sp = x := cdAt_get hx
  have hxv : cvOk x = true := pv_all hp _ (List.mem_of_getElem? hx)
  unfold lnV
  have hltI : (sp : Int) < (l.length : Int) := by omega
  have b0 : w1.cell? ⟨w.heap.size, 0, none⟩ = some (.slice (some ⟨Rb, Ro, none⟩) 4 rc) := cell_of_heap hBox 0
  have b1 : w1.cell? ⟨w.heap.size, 1, none⟩ = some (.int .i64 sp) := cell_of_heap hBox 1
  have b2 : w1.cell? ⟨w.heap.size, 2, none⟩ = some (.slice T st.length tc) := cell_of_heap hBox 2
  have hwl : w.heap.size < w1.heap.size := by omega
  go_upto_region 5 with fail
  obtain ⟨xo, xa, xi, xc⟩ := x
  have hE1 := Ext.alloc w1 (.cells #[.slice (some ⟨r, 0, none⟩) 4 rc', .int .i64 ((sp : Int) + 1), .slice (some ⟨t, 0, none⟩) st.length tc', .bool false] 84)
  have hx1 := heap_alloc_new w1 (.cells #[.slice (some ⟨r, 0, none⟩) 4 rc', .int .i64 ((sp : Int) + 1), .slice (some ⟨t, 0, none⟩) st.length tc', .bool false] 84)
  have hE2 := Ext.alloc (w1.alloc (.cells #[.slice (some ⟨r, 0, none⟩) 4 rc', .int .i64 ((sp : Int) + 1), .slice (some ⟨t, 0, none⟩) st.length tc', .bool false] 84)) (.cells #[.int .i64 xo, .int .i64 xa, .int .i64 xi, .int .i64 xc] 76)
  have hx2 := heap_alloc_new (w1.alloc (.cells #[.slice (some ⟨r, 0, none⟩) 4 rc', .int .i64 ((sp : Int) + 1), .slice (some ⟨t, 0, none⟩) st.length tc', .bool false] 84)) (.cells #[.int .i64 xo, .int .i64 xa, .int .i64 xi, .int .i64 xc] 76)
  have hsz1 : (w1.alloc (.cells #[.slice (some ⟨r, 0, none⟩) 4 rc', .int .i64 ((sp : Int) + 1), .slice (some ⟨t, 0, none⟩) st.length tc', .bool false] 84)).heap.size = w1.heap.size + 1 := by simp
  rw [hsz1] at hx2
  have hx1' := hE2.heap_ hx1
  have hE := hE1.trans hE2
  simp only at *
  generalize (w1.alloc (.cells #[.slice (some ⟨r, 0, none⟩) 4 rc', .int .i64 ((sp : Int) + 1), .slice (some ⟨t, 0, none⟩) st.length tc', .bool false] 84)).alloc (.cells #[.int .i64 xo, .int .i64 xa, .int .i64 xi, .int .i64 xc] 76) = w5 at *
  have hE5 := hX1.trans hE
  have hBox5 := hE.heap_ hBox
  have hRet5 := hE.heap_ hRet
  have hOr := OR.ext hO.regs hE
  have hOt := OR.ext hO.turns hE
  have hrt := hO.ne
  have lr := OR.base_le hO.regs
  have lt := OR.base_le hO.turns
  have hM5 : OI w5 B (some ⟨mb, 0, none⟩) mn mc m := OR.ext hM1 hE
  have hA5 := (hA1.below hE.below).more hE.size
  have hT5 := (hT1.below hE.below).more hE.size
  have hR5 := (hR1.below hE.below).more hE.size
  have hs5 := lt_of_block hx2
  clear hE1 hE2 hx1 hsz1 hE hX1 hBox hRet hO hM1 hA1 hT1 hR1 a0 a1 a2 a3 b0 b1 b2 hwl
  generalize hwb : w.heap.size = wb at *
  generalize hxq : w1.heap.size = xq at *
  clear hxq
  have c0 : w5.cell? ⟨xq + 1, 0, none⟩ = some (.int .i64 xo) := cell_of_heap hx2 0
  have c1 : w5.cell? ⟨xq + 1, 1, none⟩ = some (.int .i64 xa) := cell_of_heap hx2 1
  have c2 : w5.cell? ⟨xq + 1, 2, none⟩ = some (.int .i64 xi) := cell_of_heap hx2 2
  have c3 : w5.cell? ⟨xq + 1, 3, none⟩ = some (.int .i64 xc) := cell_of_heap hx2 3
  have x0 : w5.cell? ⟨xq, 0, none⟩ = some (.slice (some ⟨r, 0, none⟩) 4 rc') := cell_of_heap hx1' 0
  have hWB := Lib.hid hwb
  have HE5 := Lib.hid (show w.grownBy w5 (some mb) from ⟨hE5.os, hE5.tape, hE5.output, hE5.size, fun k hk _ => hE5.block k hk⟩)
  have HBox := Lib.hid hBox5
  have HRet := Lib.hid hRet5
  have HX := Lib.hid hx1'
  have HC := Lib.hid hx2
  have HR := Lib.hid hOr
  have HT := Lib.hid hOt
  have HM := Lib.hid hM5
  have HA := Lib.hid hA5
  have HRD := Lib.hid hR5
  have HTD := Lib.hid hT5
  have HCD := Lib.hid hcd
  have HLO := Lib.hid hloop
  have HV := Lib.hid hxv
  have HX0 := Lib.hid hx
  have hs5' : xq < w5.heap.size := by omega
  clear hwb hBox5 hRet5 hx1' hx2 hOr hOt hM5 hA5 hR5 hT5 hcd hloop hxv hE5 hx hL
  have y0 : w5.cell? ⟨wb, 0, none⟩ = some (.slice (some ⟨Rb, Ro, none⟩) 4 rc) := cell_of_heap HBox.out 0
  have y1 : w5.cell? ⟨wb, 1, none⟩ = some (.int .i64 sp) := cell_of_heap HBox.out 1
  have y2 : w5.cell? ⟨wb, 2, none⟩ = some (.slice T st.length tc) := cell_of_heap HBox.out 2
  have hop := cvOk_op HV.out
  simp only at hop
  have hcase : xo ≤ 9 ∨ xo = 10 ∨ xo = 11 ∨ xo = 12 ∨ xo = 13 ∨ xo = 14 := by omega
  rcases hcase with h9 | rfl | rfl | rfl | rfl | rfl
  · have h1 : 1 ≤ xo := by omega
    have e10 : (xo == 10) = false := beq_eq_false_iff_ne.2 (by omega)
    have e11 : (xo == 11) = false := beq_eq_false_iff_ne.2 (by omega)
    have e12 : (xo == 12) = false := beq_eq_false_iff_ne.2 (by omega)
    have e13 : (xo == 13) = false := beq_eq_false_iff_ne.2 (by omega)
    have e14 : (xo == 14) = false := beq_eq_false_iff_ne.2 (by omega)
    have HS := Lib.hid (stepL_simple (id := id) (m := m) (s := ⟨sr, sp, st, false⟩) HCD.out (show xo ≤ 10 by omega))
    simp only at HS
    rw [e10] at HS
    have HNE := Lib.hid hrt
    go_wp2_with fail
    refine (l6Simple_c ⟨xo, xa, xi, xc⟩ id sr m B r rc' mb mc mn w5 HV.out (by show xo ≤ 10; omega) hid (OR.mono HR.out (by omega)) HM.out (by omega) hrw hm hml).mono ?_
    rintro e w6 ⟨rfl, k1, k2, k3⟩
    have HX6 := Lib.hid ((k3.block xq (by omega) (by omega) (by omega)).trans HX.out)
    have HZ6 := Lib.hid ((k3.block (wb + 1) (by omega) (by omega) (by omega)).trans HRet.out)
    have HR6 := Lib.hid (OI.raise k1 lr.1)
    have HM6 := Lib.hid k2
    have HT6 : Hid (OI w6 (wb + 2) (some ⟨t, 0, none⟩) st.length tc' st) := Lib.hid (OR.off HT.out k3 (fun e => hrt (by injection e with e; exact e.symm)) (fun e => by injection e with e; simp only at e; omega))
    have HE6 : Hid (w.grownBy w6 (some mb)) := Lib.hid ⟨k3.os.trans HE5.out.os, k3.tape.trans HE5.out.tape, k3.output.trans HE5.out.output, Nat.le_trans HE5.out.size k3.size, fun k hk hne => (k3.block k (Nat.lt_of_lt_of_le hk HE5.out.size) (by have := hWB.out; omega) (fun e => hne (by rw [e]))).trans (HE5.out.block k hk hne)⟩
    clear k1 k2 k3
    go_upto_region 30 with fail
    refine wp_region_lit (fin_row _ _ _ _ rfl rfl rfl rfl _ _ _ _ _ _ HX6.out HZ6.out rfl rfl rfl _ (Tryz.underlying84) rfl (by kernel_rfl) rfl (by simp [Value.oneCell']) ?_)
    have hz9 := heap_setRow_same (cs := #[.slice (some ⟨r, 0, none⟩) 4 rc', .int .i64 ((sp : Int) + 1), .slice (some ⟨t, 0, none⟩) st.length tc', .bool false]) HZ6.out
    go_wp2_with fail
    refine ret_cell Tryz.results65 _ rfl _ _ _ hz9 _ (Tryz.underlying84) rfl (by kernel_rfl) rfl ?_
    rw [HS.out]
    exact fin_pack hWB.out HE6.out HR6.out HT6.out HNE.out HM6.out (by omega)
  · have HS := Lib.hid (stepL_simple (id := id) (m := m) (s := ⟨sr, sp, st, false⟩) HCD.out (show (10 : Int) ≤ 10 by decide))
    simp only at HS
    rw [simp1_move (x := ⟨10, xa, xi, xc⟩) (show (10 : Int) ≤ 10 by decide)] at HS
    have HNE := Lib.hid hrt
    have x3 : w5.cell? ⟨xq, 3, none⟩ = some (.bool false) := cell_of_heap HX.out 3
    have f3 := free_of_heap HX.out 3
    have HXF : Hid ((w5.setCell ⟨xq, 3, none⟩ (.bool true)).heap[xq]? = some (.cells #[.slice (some ⟨r, 0, none⟩) 4 rc', .int .i64 ((sp : Int) + 1), .slice (some ⟨t, 0, none⟩) st.length tc', .bool true] 84 (0, 0))) := Lib.hid (heap_set_same HX.out 3 _)
    have HZF := Lib.hid ((heap_set_other (w := w5) (g := xq) (b := wb + 1) (by omega) 3 (.bool true)).trans HRet.out)
    have hg := grown_cell1 w5 xq 3 (.bool true)
    have HEF := Lib.hid (grown_then HE5.out hg (by have := hWB.out; omega))
    have HRF := Lib.hid (OI.kept_ne HR.out hg (by omega))
    have HTF := Lib.hid (OI.kept_ne HT.out hg (by omega))
    have HMF := Lib.hid (OI.kept_ne HM.out hg (by omega))
    clear hg
    go_upto_region 30 with fail
    refine wp_region_lit (fin_row _ _ _ _ rfl rfl rfl rfl _ _ _ _ _ _ HXF.out HZF.out rfl rfl rfl _ (Tryz.underlying84) rfl (by kernel_rfl) rfl (by simp [Value.oneCell']) ?_)
    have hz9 := heap_setRow_same (cs := #[.slice (some ⟨r, 0, none⟩) 4 rc', .int .i64 ((sp : Int) + 1), .slice (some ⟨t, 0, none⟩) st.length tc', .bool true]) HZF.out
    go_wp2_with fail
    refine ret_cell Tryz.results65 _ rfl _ _ _ hz9 _ (Tryz.underlying84) rfl (by kernel_rfl) rfl ?_
    rw [HS.out]
    exact fin_pack hWB.out HEF.out HRF.out HTF.out HNE.out HMF.out (by omega)
  · have HNP := Lib.hid (np11 (r := sr) (ts := st) HCD.out)
    have HSM := Lib.hid (stepL_move (id := id) (m := m) (s := ⟨sr, sp, st, false⟩) HCD.out (show (10 : Int) ≤ 11 by decide))
    simp only at HSM
    rw [HNP.out] at HSM
    have HNE := Lib.hid hrt
    obtain ⟨p1, p2, p3⟩ := pEnd_bound hp HX0.out (show opB ⟨11, xa, xi, xc⟩ = true from rfl)
    have hov := overN_le hp HX0.out (show opB ⟨11, xa, xi, xc⟩ = true from rfl)
    obtain ⟨a, haE⟩ := Int.eq_ofNat_of_zero_le (show 0 ≤ xa from (cvOk_a HV.out).1)
    have ha3 : a ≤ 3 := by have : xa ≤ 3 := (cvOk_a HV.out).2; omega
    subst haE
    have hrg := rg_get h4 ha3
    have hg5 := (HRD.out.atk hrg).2
    have HOV := Lib.hid (show overN l sp = if 0 ≤ (endOf l sp).2 then (endOf l sp).2.toNat + 1 else (endOf l sp).1.toNat + 1 from rfl)
    clear HNP
    go_wp2_with fail
    refine (l4End_c (some ⟨ab, ao, none⟩) ca l sp w5 HA.out (by omega) hlt).mono ?_
    rintro e w6 ⟨rfl, b6⟩
    have hg6 := cell_kept b6 hg5
    have hx6 := Ext.of_below b6
    have HE6 : Hid (w.grownBy w6 (some mb)) := Lib.hid ⟨hx6.os.trans HE5.out.os, hx6.tape.trans HE5.out.tape, hx6.output.trans HE5.out.output, Nat.le_trans HE5.out.size hx6.size, fun k hk hne => (hx6.block k (Nat.lt_of_lt_of_le hk HE5.out.size)).trans (HE5.out.block k hk hne)⟩
    have HX6 := Lib.hid (hx6.heap_ HX.out)
    have HZ6 := Lib.hid (hx6.heap_ HRet.out)
    have HR6 : Hid (OI w6 (wb + 2) (some ⟨r, 0, none⟩) 4 rc' sr) := Lib.hid (OR.ext HR.out hx6)
    have HT6 : Hid (OI w6 (wb + 2) (some ⟨t, 0, none⟩) st.length tc' st) := Lib.hid (OR.ext HT.out hx6)
    have HM6 : Hid (OI w6 B (some ⟨mb, 0, none⟩) mn mc m) := Lib.hid (OR.ext HM.out hx6)
    have d0 : w6.cell? ⟨wb, 0, none⟩ = some (.slice (some ⟨Rb, Ro, none⟩) 4 rc) := (cell_of_heap (hx6.heap_ HBox.out) 0)
    have d1 : w6.cell? ⟨wb, 1, none⟩ = some (.int .i64 sp) := (cell_of_heap (hx6.heap_ HBox.out) 1)
    have d2 : w6.cell? ⟨wb, 2, none⟩ = some (.slice T st.length tc) := (cell_of_heap (hx6.heap_ HBox.out) 2)
    replace c0 := hx6.cell c0
    replace c1 := hx6.cell c1
    replace c2 := hx6.cell c2
    replace x0 := hx6.cell x0
    have x1 : w6.cell? ⟨xq, 1, none⟩ = some (.int .i64 ((sp : Int) + 1)) := cell_of_heap HX6.out 1
    have x2 : w6.cell? ⟨xq, 2, none⟩ = some (.slice (some ⟨t, 0, none⟩) st.length tc') := cell_of_heap HX6.out 2
    have f1 := free_of_heap HX6.out 1
    have f2 := free_of_heap HX6.out 2
    have hs6 : xq + 1 < w6.heap.size := Nat.lt_of_lt_of_le hs5 hx6.size
    generalize (endOf l sp).1 = e1 at *
    generalize (endOf l sp).2 = e2 at *
    generalize pEnd l sp = pe at *
    subst p1
    rw [Int.toNat_natCast] at HOV
    clear b6 hx6 hg5 hrg
    generalize hra : rg sr (a : Int) = ra at *
    cases hz : ra == 0 with
    | true =>
      rw [hz] at HSM
      simp only [if_true] at HSM
      have HXFa : Hid ((w6.setCell ⟨xq, 1, none⟩ (.int .i64 ((pe : Int) + 1))).heap[xq]? = some (.cells #[.slice (some ⟨r, 0, none⟩) 4 rc', .int .i64 ((pe : Int) + 1), .slice (some ⟨t, 0, none⟩) st.length tc', .bool false] 84 (0, 0))) := Lib.hid (heap_set_same HX6.out 1 _)
      have HZFa := Lib.hid ((heap_set_other (w := w6) (g := xq) (b := wb + 1) (by omega) 1 (.int .i64 ((pe : Int) + 1))).trans HZ6.out)
      have hg := grown_cell1 (w6) xq 1 (.int .i64 ((pe : Int) + 1))
      have HEFa := Lib.hid (grown_then HE6.out hg (by have := hWB.out; omega))
      have HRFa := Lib.hid (OI.kept_ne HR6.out hg (by omega))
      have HTFa := Lib.hid (OI.kept_ne HT6.out hg (by omega))
      have HMFa := Lib.hid (OI.kept_ne HM6.out hg (by omega))
      clear hg
      by_cases he2 : 0 ≤ e2
      · rw [if_pos he2] at HOV
        obtain ⟨eq, rfl⟩ := Int.eq_ofNat_of_zero_le he2
        rw [Int.toNat_natCast] at HOV
        rw [HOV.out] at HSM hov
        have he2b : decide ((0 : Int) ≤ (eq : Int)) = true := decide_eq_true (by omega)
        have HXFb : Hid (((w6.setCell ⟨xq, 1, none⟩ (.int .i64 ((pe : Int) + 1))).setCell ⟨xq, 1, none⟩ (.int .i64 ((eq : Int) + 1))).heap[xq]? = some (.cells #[.slice (some ⟨r, 0, none⟩) 4 rc', .int .i64 ((eq : Int) + 1), .slice (some ⟨t, 0, none⟩) st.length tc', .bool false] 84 (0, 0))) := Lib.hid (heap_set_same HXFa.out 1 _)
        have HZFb := Lib.hid ((heap_set_other (w := (w6.setCell ⟨xq, 1, none⟩ (.int .i64 ((pe : Int) + 1)))) (g := xq) (b := wb + 1) (by omega) 1 (.int .i64 ((eq : Int) + 1))).trans HZFa.out)
        have hg := grown_cell1 ((w6.setCell ⟨xq, 1, none⟩ (.int .i64 ((pe : Int) + 1)))) xq 1 (.int .i64 ((eq : Int) + 1))
        have HEFb := Lib.hid (grown_then HEFa.out hg (by have := hWB.out; omega))
        have HRFb := Lib.hid (OI.kept_ne HRFa.out hg (by omega))
        have HTFb := Lib.hid (OI.kept_ne HTFa.out hg (by omega))
        have HMFb := Lib.hid (OI.kept_ne HMFa.out hg (by omega))
        clear hg
        go_upto_region 30 with fail
        refine wp_region_lit (fin_row _ _ _ _ rfl rfl rfl rfl _ _ _ _ _ _ HXFb.out HZFb.out rfl rfl rfl _ (Tryz.underlying84) rfl (by kernel_rfl) rfl (by simp [Value.oneCell']) ?_)
        have hz9 := heap_setRow_same (cs := #[.slice (some ⟨r, 0, none⟩) 4 rc', .int .i64 ((eq : Int) + 1), .slice (some ⟨t, 0, none⟩) st.length tc', .bool false]) HZFb.out
        go_wp2_with fail
        refine ret_cell Tryz.results65 _ rfl _ _ _ hz9 _ (Tryz.underlying84) rfl (by kernel_rfl) rfl ?_
        rw [HSM.out]
        exact fin_pack hWB.out HEFb.out HRFb.out HTFb.out HNE.out HMFb.out (by omega)
      · rw [if_neg he2] at HOV
        rw [HOV.out] at HSM hov
        have he2b : decide ((0 : Int) ≤ e2) = false := decide_eq_false he2
        go_upto_region 30 with fail
        refine wp_region_lit (fin_row _ _ _ _ rfl rfl rfl rfl _ _ _ _ _ _ HXFa.out HZFa.out rfl rfl rfl _ (Tryz.underlying84) rfl (by kernel_rfl) rfl (by simp [Value.oneCell']) ?_)
        have hz9 := heap_setRow_same (cs := #[.slice (some ⟨r, 0, none⟩) 4 rc', .int .i64 ((pe : Int) + 1), .slice (some ⟨t, 0, none⟩) st.length tc', .bool false]) HZFa.out
        go_wp2_with fail
        refine ret_cell Tryz.results65 _ rfl _ _ _ hz9 _ (Tryz.underlying84) rfl (by kernel_rfl) rfl ?_
        rw [HSM.out]
        exact fin_pack hWB.out HEFa.out HRFa.out HTFa.out HNE.out HMFa.out (by omega)
    | false =>
      rw [hz] at HSM
      simp only [Bool.false_eq_true, if_false] at HSM
      go_upto_region 30 with fail
      refine wp_region_lit (fin_row _ _ _ _ rfl rfl rfl rfl _ _ _ _ _ _ HX6.out HZ6.out rfl rfl rfl _ (Tryz.underlying84) rfl (by kernel_rfl) rfl (by simp [Value.oneCell']) ?_)
      have hz9 := heap_setRow_same (cs := #[.slice (some ⟨r, 0, none⟩) 4 rc', .int .i64 ((sp : Int) + 1), .slice (some ⟨t, 0, none⟩) st.length tc', .bool false]) HZ6.out
      go_wp2_with fail
      refine ret_cell Tryz.results65 _ rfl _ _ _ hz9 _ (Tryz.underlying84) rfl (by kernel_rfl) rfl ?_
      rw [HSM.out]
      exact fin_pack hWB.out HE6.out HR6.out HT6.out HNE.out HM6.out (by omega)
  · have HNP := Lib.hid (np12 (r := sr) (ts := st) HCD.out)
    have HSM := Lib.hid (stepL_move (id := id) (m := m) (s := ⟨sr, sp, st, false⟩) HCD.out (show (10 : Int) ≤ 12 by decide))
    simp only at HSM
    rw [HNP.out] at HSM
    have HNE := Lib.hid hrt
    obtain ⟨q1, q2, q3⟩ := around_in hp HX0.out (.inl rfl)
    have q2l : aroundN l sp < l.length := by omega
    have hxf : l[aroundN l sp]? = some (cdAt l (aroundN l sp)) := by unfold cdAt; rw [List.getElem?_eq_getElem q2l]
    obtain ⟨p1, p2, p3⟩ := pEnd_bound hp hxf q3
    have HEN := Lib.hid (show endN l (aroundN l sp) = pEnd l (aroundN l sp) by unfold endN; rw [p1, Int.toNat_natCast])
    rw [HEN.out] at HSM
    clear HNP hxf q3 HEN
    go_wp2_with fail
    refine (l4Around_c (some ⟨ab, ao, none⟩) ca l sp w5 HA.out (by omega) (by omega)).mono ?_
    rintro e w5a ⟨rfl, b5⟩
    rw [q1]
    have hA6 := (HA.out.below b5).more b5.size
    go_wp2_with fail
    refine (l4End_c (some ⟨ab, ao, none⟩) ca l (aroundN l sp) w5a hA6 (by omega) q2l).mono ?_
    rintro e w6 ⟨rfl, b6'⟩
    have b6 := below_trans b5 (Nat.le_refl _) b6'
    rw [p1]
    clear b5 b6' q1
    have hx6 := Ext.of_below b6
    have HE6 : Hid (w.grownBy w6 (some mb)) := Lib.hid ⟨hx6.os.trans HE5.out.os, hx6.tape.trans HE5.out.tape, hx6.output.trans HE5.out.output, Nat.le_trans HE5.out.size hx6.size, fun k hk hne => (hx6.block k (Nat.lt_of_lt_of_le hk HE5.out.size)).trans (HE5.out.block k hk hne)⟩
    have HX6 := Lib.hid (hx6.heap_ HX.out)
    have HZ6 := Lib.hid (hx6.heap_ HRet.out)
    have HR6 : Hid (OI w6 (wb + 2) (some ⟨r, 0, none⟩) 4 rc' sr) := Lib.hid (OR.ext HR.out hx6)
    have HT6 : Hid (OI w6 (wb + 2) (some ⟨t, 0, none⟩) st.length tc' st) := Lib.hid (OR.ext HT.out hx6)
    have HM6 : Hid (OI w6 B (some ⟨mb, 0, none⟩) mn mc m) := Lib.hid (OR.ext HM.out hx6)
    have d0 : w6.cell? ⟨wb, 0, none⟩ = some (.slice (some ⟨Rb, Ro, none⟩) 4 rc) := (cell_of_heap (hx6.heap_ HBox.out) 0)
    have d1 : w6.cell? ⟨wb, 1, none⟩ = some (.int .i64 sp) := (cell_of_heap (hx6.heap_ HBox.out) 1)
    have d2 : w6.cell? ⟨wb, 2, none⟩ = some (.slice T st.length tc) := (cell_of_heap (hx6.heap_ HBox.out) 2)
    replace c0 := hx6.cell c0
    replace c1 := hx6.cell c1
    replace c2 := hx6.cell c2
    replace x0 := hx6.cell x0
    have x1 : w6.cell? ⟨xq, 1, none⟩ = some (.int .i64 ((sp : Int) + 1)) := cell_of_heap HX6.out 1
    have x2 : w6.cell? ⟨xq, 2, none⟩ = some (.slice (some ⟨t, 0, none⟩) st.length tc') := cell_of_heap HX6.out 2
    have f1 := free_of_heap HX6.out 1
    have f2 := free_of_heap HX6.out 2
    have hs6 : xq + 1 < w6.heap.size := Nat.lt_of_lt_of_le hs5 hx6.size
    generalize (endOf l (aroundN l sp)).2 = e2 at *
    generalize pEnd l (aroundN l sp) = pe at *
    clear p1 b6 hx6
    have HXFa : Hid ((w6.setCell ⟨xq, 1, none⟩ (.int .i64 ((pe : Int) + 1))).heap[xq]? = some (.cells #[.slice (some ⟨r, 0, none⟩) 4 rc', .int .i64 ((pe : Int) + 1), .slice (some ⟨t, 0, none⟩) st.length tc', .bool false] 84 (0, 0))) := Lib.hid (heap_set_same HX6.out 1 _)
    have HZFa := Lib.hid ((heap_set_other (w := w6) (g := xq) (b := wb + 1) (by omega) 1 (.int .i64 ((pe : Int) + 1))).trans HZ6.out)
    have hg := grown_cell1 (w6) xq 1 (.int .i64 ((pe : Int) + 1))
    have HEFa := Lib.hid (grown_then HE6.out hg (by have := hWB.out; omega))
    have HRFa := Lib.hid (OI.kept_ne HR6.out hg (by omega))
    have HTFa := Lib.hid (OI.kept_ne HT6.out hg (by omega))
    have HMFa := Lib.hid (OI.kept_ne HM6.out hg (by omega))
    clear hg
    go_upto_region 30 with fail
    refine wp_region_lit (fin_row _ _ _ _ rfl rfl rfl rfl _ _ _ _ _ _ HXFa.out HZFa.out rfl rfl rfl _ (Tryz.underlying84) rfl (by kernel_rfl) rfl (by simp [Value.oneCell']) ?_)
    have hz9 := heap_setRow_same (cs := #[.slice (some ⟨r, 0, none⟩) 4 rc', .int .i64 ((pe : Int) + 1), .slice (some ⟨t, 0, none⟩) st.length tc', .bool false]) HZFa.out
    go_wp2_with fail
    refine ret_cell Tryz.results65 _ rfl _ _ _ hz9 _ (Tryz.underlying84) rfl (by kernel_rfl) rfl ?_
    rw [HSM.out]
    exact fin_pack hWB.out HEFa.out HRFa.out HTFa.out HNE.out HMFa.out (by omega)
  · have HNP := Lib.hid (np13 (r := sr) (ts := st) HCD.out)
    have HSM := Lib.hid (stepL_move (id := id) (m := m) (s := ⟨sr, sp, st, false⟩) HCD.out (show (10 : Int) ≤ 13 by decide))
    simp only at HSM
    rw [HNP.out] at HSM
    have HNE := Lib.hid hrt
    obtain ⟨p1, p2, p3⟩ := pEnd_bound hp HX0.out (show opB ⟨13, xa, xi, xc⟩ = true from rfl)
    have hov : overN l sp = pEnd l sp + 1 := loop_over hp HX0.out
    rw [hov] at HSM
    clear HNP hov
    obtain ⟨a, haE⟩ := Int.eq_ofNat_of_zero_le (show 0 ≤ xa from (cvOk_a HV.out).1)
    have ha3 : a ≤ 3 := by have : xa ≤ 3 := (cvOk_a HV.out).2; omega
    subst haE
    have hrg := rg_get h4 ha3
    have hg5 := (HRD.out.atk hrg).2
    have hbi : 0 ≤ xi ∧ xi ≤ 255 := cvOk_b HV.out
    generalize hra : rg sr (a : Int) = ra at *
    cases hz : ra == 0 with
    | true =>
      have hz2 : (ra != 0) = false := by simp [bne, hz]
      rw [hz] at HSM
      simp only [if_true] at HSM
      go_wp2_with fail
      refine (l4End_c (some ⟨ab, ao, none⟩) ca l sp w5 HA.out (by omega) hlt).mono ?_
      rintro e w6 ⟨rfl, b6⟩
      rw [p1]
      have hx6 := Ext.of_below b6
      have HE6 : Hid (w.grownBy w6 (some mb)) := Lib.hid ⟨hx6.os.trans HE5.out.os, hx6.tape.trans HE5.out.tape, hx6.output.trans HE5.out.output, Nat.le_trans HE5.out.size hx6.size, fun k hk hne => (hx6.block k (Nat.lt_of_lt_of_le hk HE5.out.size)).trans (HE5.out.block k hk hne)⟩
      have HX6 := Lib.hid (hx6.heap_ HX.out)
      have HZ6 := Lib.hid (hx6.heap_ HRet.out)
      have HR6 : Hid (OI w6 (wb + 2) (some ⟨r, 0, none⟩) 4 rc' sr) := Lib.hid (OR.ext HR.out hx6)
      have HT6 : Hid (OI w6 (wb + 2) (some ⟨t, 0, none⟩) st.length tc' st) := Lib.hid (OR.ext HT.out hx6)
      have HM6 : Hid (OI w6 B (some ⟨mb, 0, none⟩) mn mc m) := Lib.hid (OR.ext HM.out hx6)
      have d0 : w6.cell? ⟨wb, 0, none⟩ = some (.slice (some ⟨Rb, Ro, none⟩) 4 rc) := (cell_of_heap (hx6.heap_ HBox.out) 0)
      have d1 : w6.cell? ⟨wb, 1, none⟩ = some (.int .i64 sp) := (cell_of_heap (hx6.heap_ HBox.out) 1)
      have d2 : w6.cell? ⟨wb, 2, none⟩ = some (.slice T st.length tc) := (cell_of_heap (hx6.heap_ HBox.out) 2)
      replace c0 := hx6.cell c0
      replace c1 := hx6.cell c1
      replace c2 := hx6.cell c2
      replace x0 := hx6.cell x0
      have x1 : w6.cell? ⟨xq, 1, none⟩ = some (.int .i64 ((sp : Int) + 1)) := cell_of_heap HX6.out 1
      have x2 : w6.cell? ⟨xq, 2, none⟩ = some (.slice (some ⟨t, 0, none⟩) st.length tc') := cell_of_heap HX6.out 2
      have f1 := free_of_heap HX6.out 1
      have f2 := free_of_heap HX6.out 2
      have hs6 : xq + 1 < w6.heap.size := Nat.lt_of_lt_of_le hs5 hx6.size
      generalize (endOf l sp).2 = e2 at *
      generalize pEnd l sp = pe at *
      clear p1 b6 hx6
      have HXFa : Hid ((w6.setCell ⟨xq, 1, none⟩ (.int .i64 ((pe : Int) + 1))).heap[xq]? = some (.cells #[.slice (some ⟨r, 0, none⟩) 4 rc', .int .i64 ((pe : Int) + 1), .slice (some ⟨t, 0, none⟩) st.length tc', .bool false] 84 (0, 0))) := Lib.hid (heap_set_same HX6.out 1 _)
      have HZFa := Lib.hid ((heap_set_other (w := w6) (g := xq) (b := wb + 1) (by omega) 1 (.int .i64 ((pe : Int) + 1))).trans HZ6.out)
      have hg := grown_cell1 (w6) xq 1 (.int .i64 ((pe : Int) + 1))
      have HEFa := Lib.hid (grown_then HE6.out hg (by have := hWB.out; omega))
      have HRFa := Lib.hid (OI.kept_ne HR6.out hg (by omega))
      have HTFa := Lib.hid (OI.kept_ne HT6.out hg (by omega))
      have HMFa := Lib.hid (OI.kept_ne HM6.out hg (by omega))
      clear hg
      go_upto_region 30 with fail
      refine wp_region_lit (fin_row _ _ _ _ rfl rfl rfl rfl _ _ _ _ _ _ HXFa.out HZFa.out rfl rfl rfl _ (Tryz.underlying84) rfl (by kernel_rfl) rfl (by simp [Value.oneCell']) ?_)
      have hz9 := heap_setRow_same (cs := #[.slice (some ⟨r, 0, none⟩) 4 rc', .int .i64 ((pe : Int) + 1), .slice (some ⟨t, 0, none⟩) st.length tc', .bool false]) HZFa.out
      go_wp2_with fail
      refine ret_cell Tryz.results65 _ rfl _ _ _ hz9 _ (Tryz.underlying84) rfl (by kernel_rfl) rfl ?_
      rw [HSM.out]
      exact fin_pack hWB.out HEFa.out HRFa.out HTFa.out HNE.out HMFa.out (by omega)
    | false =>
      have hz2 : (ra != 0) = true := by simp [bne, hz]
      rw [hz] at HSM
      simp only [Bool.false_eq_true, if_false] at HSM
      have x2 : w5.cell? ⟨xq, 2, none⟩ = some (.slice (some ⟨t, 0, none⟩) st.length tc') := cell_of_heap HX.out 2
      have f2 := free_of_heap HX.out 2
      have hsub : IntKind.i64.wrap (xi - 1) = xi - 1 := IntWalk.i64_in _ (by omega)
      have HTa := Lib.hid (OR.alloc HT.out (.cells #[.int .i64 (xi - 1)] 3))
      have hXa := Ext.alloc w5 (.cells #[.int .i64 (xi - 1)] 3)
      have HXA := Lib.hid hXa
      have hsa : wb + 2 ≤ (w5.alloc (.cells #[.int .i64 (xi - 1)] 3)).heap.size := by have := hXa.size; omega
      clear hXa
      go_wp2_with (at_builtin; refine app_int_at rfl _ _ rfl (wb + 2) t st.length tc' st HTa.out rfl (xi - 1) w5.heap.size 1 rfl ?hc ?hn ?hb ?_)
      case hn => omega
      case hb => first | exact hsa | (simp at hsa ⊢; omega) | omega
      intro t' c' w6 ho6 hg6 hat
      have hrt' : r ≠ t' := by
        rcases hat with rfl | rfl
        · exact hrt
        · have := HXA.out.size; omega
      have hxE := HXA.out.heap_ HX.out
      have hx6 := blk_ne hg6 (by omega) hxE
      have hz6 := blk_ne hg6 (by omega) (HXA.out.heap_ HRet.out)
      have HX6 := Lib.hid hx6
      have hR6 := OI.kept_ne (OR.ext HR.out HXA.out : OI _ (wb + 2) (some ⟨r, 0, none⟩) 4 rc' sr) hg6 (fun e => hrt e.symm)
      have hM6 := OI.kept_ne (OR.ext HM.out HXA.out : OI _ B (some ⟨mb, 0, none⟩) mn mc m) hg6 (by omega)
      have hE6 : w.grownBy w6 (some mb) := ⟨hg6.os.trans (HXA.out.os.trans HE5.out.os), hg6.tape.trans (HXA.out.tape.trans HE5.out.tape), hg6.output.trans (HXA.out.output.trans HE5.out.output), Nat.le_trans HE5.out.size (Nat.le_trans HXA.out.size hg6.size), fun k hk hne => (hg6.block k (Nat.lt_of_lt_of_le hk (Nat.le_trans HE5.out.size HXA.out.size)) (fun e => by injection e with e; have := hWB.out; omega)).trans ((HXA.out.block k (Nat.lt_of_lt_of_le hk HE5.out.size)).trans (HE5.out.block k hk hne))⟩
      have hs6 : xq + 1 < w6.heap.size := Nat.lt_of_lt_of_le hs5 (Nat.le_trans HXA.out.size hg6.size)
      have hl6 := (OR.base_le ho6).1
      have htx : xq ≠ t' := by
        rcases hat with rfl | rfl
        · omega
        · have := HXA.out.size; omega
      clear hxE hx6 hg6 hat HTa
      have x2' : w6.cell? ⟨xq, 2, none⟩ = some (.slice (some ⟨t, 0, none⟩) st.length tc') := cell_of_heap HX6.out 2
      have f2' := free_of_heap HX6.out 2
      have HXF : Hid ((w6.setCell ⟨xq, 2, none⟩ (.slice (some ⟨t', 0, none⟩) (st.length + 1) c')).heap[xq]? = some (.cells #[.slice (some ⟨r, 0, none⟩) 4 rc', .int .i64 ((sp : Int) + 1), .slice (some ⟨t', 0, none⟩) (st.length + 1) c', .bool false] 84 (0, 0))) := Lib.hid (heap_set_same HX6.out 2 _)
      have HZF := Lib.hid ((heap_set_other (w := w6) (g := xq) (b := wb + 1) (by omega) 2 (.slice (some ⟨t', 0, none⟩) (st.length + 1) c')).trans hz6)
      have hg := grown_cell1 w6 xq 2 (.slice (some ⟨t', 0, none⟩) (st.length + 1) c')
      have HEF := Lib.hid (grown_then hE6 hg (by have := hWB.out; omega))
      have HRF := Lib.hid (OI.kept_ne hR6 hg (by omega))
      have HTF := Lib.hid (OI.kept_ne ho6 hg htx)
      have HMF := Lib.hid (OI.kept_ne hM6 hg (by omega))
      have HNE := Lib.hid hrt'
      have HLL := Lib.hid (show (st ++ [xi - 1]).length = st.length + 1 by simp)
      clear hg hz6 hR6 ho6 hM6 hE6
      go_upto_region 30 with fail
      refine wp_region_lit (fin_row _ _ _ _ rfl rfl rfl rfl _ _ _ _ _ _ HXF.out HZF.out rfl rfl rfl _ (Tryz.underlying84) rfl (by kernel_rfl) rfl (by simp [Value.oneCell']) ?_)
      have hz9 := heap_setRow_same (cs := #[.slice (some ⟨r, 0, none⟩) 4 rc', .int .i64 ((sp : Int) + 1), .slice (some ⟨t', 0, none⟩) (st.length + 1) c', .bool false]) HZF.out
      go_wp2_with fail
      refine ret_cell Tryz.results65 _ rfl _ _ _ hz9 _ (Tryz.underlying84) rfl (by kernel_rfl) rfl ?_
      rw [HSM.out]
      have hfp := fin_pack (s' := ⟨sr, sp + 1, st ++ [xi - 1], false⟩) hWB.out HEF.out HRF.out (by show OI _ _ _ (st ++ [xi - 1]).length _ _; rw [HLL.out]; exact HTF.out) HNE.out HMF.out (by omega)
      unfold lnV at hfp
      simp only [HLL.out] at hfp
      exact hfp
  · have HNP := Lib.hid (np14 (r := sr) (ts := st) HCD.out)
    have HSM := Lib.hid (stepL_move (id := id) (m := m) (s := ⟨sr, sp, st, false⟩) HCD.out (show (10 : Int) ≤ 14 by decide))
    simp only at HSM
    rw [HNP.out] at HSM
    have HNE := Lib.hid hrt
    obtain ⟨q1, q2, q3⟩ := around_in hp HX0.out (.inr rfl)
    have q2l : aroundN l sp < l.length := by omega
    have hxf : l[aroundN l sp]? = some (cdAt l (aroundN l sp)) := by unfold cdAt; rw [List.getElem?_eq_getElem q2l]
    have HFV := Lib.hid (pv_all hp _ (List.mem_of_getElem? hxf))
    have hfo : opAt l (aroundN l sp) = (cdAt l (aroundN l sp)).op := opAt_cd _ _
    have HLP := Lib.hid (HLO.out (show (cdAt l sp).op = 14 by rw [HCD.out]))
    rw [hfo] at HSM HLP
    clear HNP hfo HLO
    go_wp2_with fail
    refine (l4Around_c (some ⟨ab, ao, none⟩) ca l sp w5 HA.out (by omega) (by omega)).mono ?_
    rintro e w6 ⟨rfl, b6⟩
    rw [q1]
    have HA6 := Lib.hid (HA.out.below b6)
    have HRD6 := Lib.hid (HRD.out.below b6)
    have HTD6 := Lib.hid (HTD.out.below b6)
    have hx6 := Ext.of_below b6
    have HE6 : Hid (w.grownBy w6 (some mb)) := Lib.hid ⟨hx6.os.trans HE5.out.os, hx6.tape.trans HE5.out.tape, hx6.output.trans HE5.out.output, Nat.le_trans HE5.out.size hx6.size, fun k hk hne => (hx6.block k (Nat.lt_of_lt_of_le hk HE5.out.size)).trans (HE5.out.block k hk hne)⟩
    have HX6 := Lib.hid (hx6.heap_ HX.out)
    have HZ6 := Lib.hid (hx6.heap_ HRet.out)
    have HR6 : Hid (OI w6 (wb + 2) (some ⟨r, 0, none⟩) 4 rc' sr) := Lib.hid (OR.ext HR.out hx6)
    have HT6 : Hid (OI w6 (wb + 2) (some ⟨t, 0, none⟩) st.length tc' st) := Lib.hid (OR.ext HT.out hx6)
    have HM6 : Hid (OI w6 B (some ⟨mb, 0, none⟩) mn mc m) := Lib.hid (OR.ext HM.out hx6)
    have d0 : w6.cell? ⟨wb, 0, none⟩ = some (.slice (some ⟨Rb, Ro, none⟩) 4 rc) := (cell_of_heap (hx6.heap_ HBox.out) 0)
    have d1 : w6.cell? ⟨wb, 1, none⟩ = some (.int .i64 sp) := (cell_of_heap (hx6.heap_ HBox.out) 1)
    have d2 : w6.cell? ⟨wb, 2, none⟩ = some (.slice T st.length tc) := (cell_of_heap (hx6.heap_ HBox.out) 2)
    replace c0 := hx6.cell c0
    replace c1 := hx6.cell c1
    replace c2 := hx6.cell c2
    replace x0 := hx6.cell x0
    have x1 : w6.cell? ⟨xq, 1, none⟩ = some (.int .i64 ((sp : Int) + 1)) := cell_of_heap HX6.out 1
    have x2 : w6.cell? ⟨xq, 2, none⟩ = some (.slice (some ⟨t, 0, none⟩) st.length tc') := cell_of_heap HX6.out 2
    have f1 := free_of_heap HX6.out 1
    have f2 := free_of_heap HX6.out 2
    have hs6 : xq + 1 < w6.heap.size := Nat.lt_of_lt_of_le hs5 hx6.size
    clear b6 hx6 y0 y1 y2
    obtain ⟨-, l0, l1, -, -⟩ := HA6.out.at0 hxf
    generalize hfc : cdAt l (aroundN l sp) = y at *
    obtain ⟨yo, ya, yb, yc⟩ := y
    simp only at l0 l1 HSM HLP
    generalize aroundN l sp = f at *
    have hfI : (f : Int) < (l.length : Int) := by omega
    have HXF0 := Lib.hid hxf
    clear hxf hfc q1 q3
    by_cases hy : yo = 13
    · subst hy
      have hst : st ≠ [] := HLP.out rfl
      have hpos : 0 < st.length := List.length_pos_iff.2 hst
      obtain ⟨a, haE⟩ := Int.eq_ofNat_of_zero_le (show 0 ≤ ya from (cvOk_a HFV.out).1)
      have ha3 : a ≤ 3 := by have : ya ≤ 3 := (cvOk_a HFV.out).2; omega
      subst haE
      have hrg := rg_get h4 ha3
      have hg6 := (HRD6.out.atk hrg).2
      obtain ⟨Tb, To, _, hTE, hTB, -, -⟩ := HTD6.out.at_ hpos
      subst hTE
      have hlast := last_get hst
      have t6 := (HTD6.out.atk hlast).2
      have hlastv := htv (st.getLastD 0) (List.mem_of_getElem? hlast)
      have hcap := OR.cap_ HT6.out
      have HLG := Lib.hid hlast
      have HSL := Lib.hid (fun v => set_last hst v)
      have HDL := Lib.hid (List.dropLast_eq_take (l := st))
      have hdl : st.dropLast.length = st.length - 1 := List.length_dropLast
      have ft : w6.frozen? ⟨t, st.length - 1, none⟩ = false := by
        obtain ⟨cur, hc⟩ := OR.heap_ HT6.out
        exact free_of_heap hc _
      have h13 : ((13 : Int) == 13) = true := rfl
      rw [h13] at HSM
      simp only [if_true] at HSM
      clear hst hlast hrg HLP
      generalize hv : st.getLastD 0 = v at *
      generalize hra : rg sr (a : Int) = ra at *
      have HVV := Lib.hid hv
      clear hv
      obtain ⟨len1, hlen⟩ : ∃ k, st.length = k + 1 := ⟨st.length - 1, by omega⟩
      have hl1 : st.length - 1 = len1 := by omega
      have hlI : (st.length : Int) - 1 = (len1 : Int) := by omega
      have HLEN := Lib.hid hlen
      have hl1' : st.length - 1 = len1 := hl1
      have hlen1 : len1 ≤ 2 := by omega
      have hlb : len1 < st.length := by omega
      have hcI : (len1 : Int) < (tc' : Int) := by omega
      have hcI2 : (len1 : Int) ≤ (tc' : Int) := by omega
      have hlI2 : (len1 : Int) < (st.length : Int) := by omega
      have hlI3 : (len1 : Int) ≤ (st.length : Int) := by omega
      rw [hl1] at t6 ft hdl
      rw [hlI]
      clear hlen hl1 hlI htl hpos
      go_upto_region 26 with fail
      have HQ : ∀ q, Hid (w.grownBy (w6.drewN q) (some mb)) := fun q => Lib.hid (grown_ext HE6.out (Ext.drewN w6 q))
      cases hz : ra == 0 with
      | true =>
        have hz2 : (ra != 0) = false := by simp [bne, hz]
        rw [hz] at HSM
        simp only [Bool.not_true, Bool.and_false, Bool.false_eq_true, if_false] at HSM
        by_cases hv : 0 < v
        · have hvb : decide (0 < v) = true := decide_eq_true hv
          go_wp2_with fail
          go_quiet (fail)
          have hXq := Ext.drewN w6 nq
          have HE7 := Lib.hid ((HQ nq).out)
          have HX7 := Lib.hid (hXq.heap_ HX6.out)
          have HZ7 := Lib.hid (hXq.heap_ HZ6.out)
          have HR7 : Hid (OI (w6.drewN nq) (wb + 2) (some ⟨r, 0, none⟩) 4 rc' sr) := Lib.hid (OR.ext HR6.out hXq)
          have HT7 : Hid (OI (w6.drewN nq) (wb + 2) (some ⟨t, 0, none⟩) st.length tc' st) := Lib.hid (OR.ext HT6.out hXq)
          have HM7 : Hid (OI (w6.drewN nq) B (some ⟨mb, 0, none⟩) mn mc m) := Lib.hid (OR.ext HM6.out hXq)
          replace d2 := hXq.cell d2
          replace t6 := hXq.cell t6
          replace x2 := hXq.cell x2
          have hs7 : xq + 1 < (w6.drewN nq).heap.size := Nat.lt_of_lt_of_le hs6 hXq.size
          clear hXq HQ d0 d1 c0 c1 c2 x0 x1 f1 f2 l0 l1 hg6 HE6 HX6 HZ6 HR6 HT6 HM6 HA6 HRD6 HTD6 hs6
          generalize w6.drewN nq = w7 at *
          have ft := free_own HT7.out len1
          have f1 := free_of_heap HX7.out 1
          have f2 := free_of_heap HX7.out 2
          have HXF : Hid ((w7.setCell ⟨xq, 2, none⟩ (.slice (some ⟨t, 0, none⟩) len1 tc')).heap[xq]? = some (.cells #[.slice (some ⟨r, 0, none⟩) 4 rc', .int .i64 ((sp : Int) + 1), .slice (some ⟨t, 0, none⟩) len1 tc', .bool false] 84 (0, 0))) := Lib.hid (heap_set_same HX7.out 2 _)
          have HZF := Lib.hid ((heap_set_other (w := w7) (g := xq) (b := wb + 1) (by omega) 2 (.slice (some ⟨t, 0, none⟩) len1 tc')).trans HZ7.out)
          have hg := grown_cell1 w7 xq 2 (.slice (some ⟨t, 0, none⟩) len1 tc')
          have HEF := Lib.hid (grown_then HE7.out hg (by have := hWB.out; omega))
          have HRF := Lib.hid (OI.kept_ne HR7.out hg (by omega))
          have HTF := Lib.hid (OI.kept_ne (OI.dropL HT7.out) hg (by omega))
          have HMF := Lib.hid (OI.kept_ne HM7.out hg (by omega))
          clear hg
          go_upto_region 30 with fail
          refine wp_region_lit (fin_row _ _ _ _ rfl rfl rfl rfl _ _ _ _ _ _ HXF.out HZF.out rfl rfl rfl _ (Tryz.underlying84) rfl (by kernel_rfl) rfl (by simp [Value.oneCell']) ?_)
          have hz9 := heap_setRow_same (cs := #[.slice (some ⟨r, 0, none⟩) 4 rc', .int .i64 ((sp : Int) + 1), .slice (some ⟨t, 0, none⟩) len1 tc', .bool false]) HZF.out
          go_wp2_with fail
          refine ret_cell Tryz.results65 _ rfl _ _ _ hz9 _ (Tryz.underlying84) rfl (by kernel_rfl) rfl ?_
          rw [HSM.out]
          have hfp := fin_pack (s' := ⟨sr, sp + 1, st.dropLast, false⟩) hWB.out HEF.out HRF.out HTF.out HNE.out HMF.out (by omega)
          unfold lnV at hfp
          simp only [hdl] at hfp
          exact hfp
        · have hvb : decide (0 < v) = false := decide_eq_false hv
          go_wp2_with fail
          go_quiet (fail)
          have hXq := Ext.drewN w6 nq
          have HE7 := Lib.hid ((HQ nq).out)
          have HX7 := Lib.hid (hXq.heap_ HX6.out)
          have HZ7 := Lib.hid (hXq.heap_ HZ6.out)
          have HR7 : Hid (OI (w6.drewN nq) (wb + 2) (some ⟨r, 0, none⟩) 4 rc' sr) := Lib.hid (OR.ext HR6.out hXq)
          have HT7 : Hid (OI (w6.drewN nq) (wb + 2) (some ⟨t, 0, none⟩) st.length tc' st) := Lib.hid (OR.ext HT6.out hXq)
          have HM7 : Hid (OI (w6.drewN nq) B (some ⟨mb, 0, none⟩) mn mc m) := Lib.hid (OR.ext HM6.out hXq)
          replace d2 := hXq.cell d2
          replace t6 := hXq.cell t6
          replace x2 := hXq.cell x2
          have hs7 : xq + 1 < (w6.drewN nq).heap.size := Nat.lt_of_lt_of_le hs6 hXq.size
          clear hXq HQ d0 d1 c0 c1 c2 x0 x1 f1 f2 l0 l1 hg6 HE6 HX6 HZ6 HR6 HT6 HM6 HA6 HRD6 HTD6 hs6
          generalize w6.drewN nq = w7 at *
          have ft := free_own HT7.out len1
          have f1 := free_of_heap HX7.out 1
          have f2 := free_of_heap HX7.out 2
          have HXF : Hid ((w7.setCell ⟨xq, 2, none⟩ (.slice (some ⟨t, 0, none⟩) len1 tc')).heap[xq]? = some (.cells #[.slice (some ⟨r, 0, none⟩) 4 rc', .int .i64 ((sp : Int) + 1), .slice (some ⟨t, 0, none⟩) len1 tc', .bool false] 84 (0, 0))) := Lib.hid (heap_set_same HX7.out 2 _)
          have HZF := Lib.hid ((heap_set_other (w := w7) (g := xq) (b := wb + 1) (by omega) 2 (.slice (some ⟨t, 0, none⟩) len1 tc')).trans HZ7.out)
          have hg := grown_cell1 w7 xq 2 (.slice (some ⟨t, 0, none⟩) len1 tc')
          have HEF := Lib.hid (grown_then HE7.out hg (by have := hWB.out; omega))
          have HRF := Lib.hid (OI.kept_ne HR7.out hg (by omega))
          have HTF := Lib.hid (OI.kept_ne (OI.dropL HT7.out) hg (by omega))
          have HMF := Lib.hid (OI.kept_ne HM7.out hg (by omega))
          clear hg
          go_upto_region 30 with fail
          refine wp_region_lit (fin_row _ _ _ _ rfl rfl rfl rfl _ _ _ _ _ _ HXF.out HZF.out rfl rfl rfl _ (Tryz.underlying84) rfl (by kernel_rfl) rfl (by simp [Value.oneCell']) ?_)
          have hz9 := heap_setRow_same (cs := #[.slice (some ⟨r, 0, none⟩) 4 rc', .int .i64 ((sp : Int) + 1), .slice (some ⟨t, 0, none⟩) len1 tc', .bool false]) HZF.out
          go_wp2_with fail
          refine ret_cell Tryz.results65 _ rfl _ _ _ hz9 _ (Tryz.underlying84) rfl (by kernel_rfl) rfl ?_
          rw [HSM.out]
          have hfp := fin_pack (s' := ⟨sr, sp + 1, st.dropLast, false⟩) hWB.out HEF.out HRF.out HTF.out HNE.out HMF.out (by omega)
          unfold lnV at hfp
          simp only [hdl] at hfp
          exact hfp
      | false =>
        have hz2 : (ra != 0) = true := by simp [bne, hz]
        rw [hz] at HSM
        simp only [Bool.not_false, Bool.and_true, decide_eq_true_eq] at HSM
        by_cases hv : 0 < v
        · rw [if_pos hv] at HSM
          have hvb : decide (0 < v) = true := decide_eq_true hv
          go_wp2_with fail
          go_quiet (fail)
          have hXq := Ext.drewN w6 nq
          have HE7 := Lib.hid ((HQ nq).out)
          have HX7 := Lib.hid (hXq.heap_ HX6.out)
          have HZ7 := Lib.hid (hXq.heap_ HZ6.out)
          have HR7 : Hid (OI (w6.drewN nq) (wb + 2) (some ⟨r, 0, none⟩) 4 rc' sr) := Lib.hid (OR.ext HR6.out hXq)
          have HT7 : Hid (OI (w6.drewN nq) (wb + 2) (some ⟨t, 0, none⟩) st.length tc' st) := Lib.hid (OR.ext HT6.out hXq)
          have HM7 : Hid (OI (w6.drewN nq) B (some ⟨mb, 0, none⟩) mn mc m) := Lib.hid (OR.ext HM6.out hXq)
          replace d2 := hXq.cell d2
          replace t6 := hXq.cell t6
          replace x2 := hXq.cell x2
          have hs7 : xq + 1 < (w6.drewN nq).heap.size := Nat.lt_of_lt_of_le hs6 hXq.size
          clear hXq HQ d0 d1 c0 c1 c2 x0 x1 f1 f2 l0 l1 hg6 HE6 HX6 HZ6 HR6 HT6 HM6 HA6 HRD6 HTD6 hs6
          generalize w6.drewN nq = w7 at *
          have ft := free_own HT7.out len1
          have f1 := free_of_heap HX7.out 1
          have f2 := free_of_heap HX7.out 2
          have x1 : w7.cell? ⟨xq, 1, none⟩ = some (.int .i64 ((sp : Int) + 1)) := cell_of_heap HX7.out 1
          have ct := (OI.at0 HT7.out).1 len1 _ (by rw [← hl1']; exact HLG.out)
          have hsub : IntKind.i64.wrap (v - 1) = v - 1 := IntWalk.i64_in _ (by omega)
          have HT8 : Hid (OI (w7.setCell ⟨t, len1, none⟩ (.int .i64 (v - 1))) (wb + 2) (some ⟨t, 0, none⟩) st.length tc' (st.set len1 (v - 1))) := Lib.hid (OI.setC HT7.out len1 (v - 1))
          have hg0 := grown_cell1 w7 t len1 (.int .i64 (v - 1))
          have HX8 := Lib.hid (blk_ne hg0 (by omega) HX7.out)
          have HZ8 := Lib.hid (blk_ne hg0 (by omega) HZ7.out)
          have HR8 := Lib.hid (OI.kept_ne HR7.out hg0 (fun e => hrt e.symm))
          have HM8 := Lib.hid (OI.kept_ne HM7.out hg0 (by omega))
          have HE8 := Lib.hid (grown_then HE7.out hg0 (by have := hWB.out; omega))
          have HLL : Hid ((st.dropLast ++ [v - 1]).length = st.length) := Lib.hid (by rw [← HSL.out, List.length_set])
          have HSS := Lib.hid (HSL.out (v - 1))
          clear hg0
          go_upto_region 27 with fail
          go_still_tail 10, (by kernel_rfl)
          repeat still_step
          try refine wpStill_nil ?_
          go_upto_region 28 with fail
          have HXF : Hid (((w7.setCell ⟨t, len1, none⟩ (.int .i64 (v - 1))).setCell ⟨xq, 1, none⟩ (.int .i64 ((f : Int) + 1))).drew.heap[xq]? = some (.cells #[.slice (some ⟨r, 0, none⟩) 4 rc', .int .i64 ((f : Int) + 1), .slice (some ⟨t, 0, none⟩) st.length tc', .bool false] 84 (0, 0))) := Lib.hid (heap_set_same HX8.out 1 _)
          have HZF : Hid (((w7.setCell ⟨t, len1, none⟩ (.int .i64 (v - 1))).setCell ⟨xq, 1, none⟩ (.int .i64 ((f : Int) + 1))).drew.heap[wb + 1]? = some (.cells zeroL 84 (0, 0))) := Lib.hid ((heap_set_other (w := (w7.setCell ⟨t, len1, none⟩ (.int .i64 (v - 1)))) (g := xq) (b := wb + 1) (by omega) 1 (.int .i64 ((f : Int) + 1))).trans HZ8.out)
          have hg := grown_ext (grown_cell1 (w7.setCell ⟨t, len1, none⟩ (.int .i64 (v - 1))) xq 1 (.int .i64 ((f : Int) + 1))) (Ext.drew _)
          have HEF := Lib.hid (grown_then HE8.out hg (by have := hWB.out; omega))
          have HRF := Lib.hid (OI.kept_ne HR8.out hg (by omega))
          have HTF := Lib.hid (OI.kept_ne HT8.out hg (by omega))
          have HMF := Lib.hid (OI.kept_ne HM8.out hg (by omega))
          clear hg
          go_upto_region 30 with fail
          refine wp_region_lit (fin_row _ _ _ _ rfl rfl rfl rfl _ _ _ _ _ _ HXF.out HZF.out rfl rfl rfl _ (Tryz.underlying84) rfl (by kernel_rfl) rfl (by simp [Value.oneCell']) ?_)
          have hz9 := heap_setRow_same (cs := #[.slice (some ⟨r, 0, none⟩) 4 rc', .int .i64 ((f : Int) + 1), .slice (some ⟨t, 0, none⟩) st.length tc', .bool false]) HZF.out
          go_wp2_with fail
          refine ret_cell Tryz.results65 _ rfl _ _ _ hz9 _ (Tryz.underlying84) rfl (by kernel_rfl) rfl ?_
          rw [HSM.out]
          have hfp := fin_pack (s' := ⟨sr, f + 1, st.dropLast ++ [v - 1], false⟩) hWB.out HEF.out HRF.out (by show OI _ _ _ (st.dropLast ++ [v - 1]).length _ (st.dropLast ++ [v - 1]); rw [HLL.out, ← HSS.out, hl1']; exact HTF.out) HNE.out HMF.out (by omega)
          unfold lnV at hfp
          simp only [HLL.out] at hfp
          exact hfp
        · rw [if_neg hv] at HSM
          have hvb : decide (0 < v) = false := decide_eq_false hv
          go_wp2_with fail
          go_quiet (fail)
          have hXq := Ext.drewN w6 nq
          have HE7 := Lib.hid ((HQ nq).out)
          have HX7 := Lib.hid (hXq.heap_ HX6.out)
          have HZ7 := Lib.hid (hXq.heap_ HZ6.out)
          have HR7 : Hid (OI (w6.drewN nq) (wb + 2) (some ⟨r, 0, none⟩) 4 rc' sr) := Lib.hid (OR.ext HR6.out hXq)
          have HT7 : Hid (OI (w6.drewN nq) (wb + 2) (some ⟨t, 0, none⟩) st.length tc' st) := Lib.hid (OR.ext HT6.out hXq)
          have HM7 : Hid (OI (w6.drewN nq) B (some ⟨mb, 0, none⟩) mn mc m) := Lib.hid (OR.ext HM6.out hXq)
          replace d2 := hXq.cell d2
          replace t6 := hXq.cell t6
          replace x2 := hXq.cell x2
          have hs7 : xq + 1 < (w6.drewN nq).heap.size := Nat.lt_of_lt_of_le hs6 hXq.size
          clear hXq HQ d0 d1 c0 c1 c2 x0 x1 f1 f2 l0 l1 hg6 HE6 HX6 HZ6 HR6 HT6 HM6 HA6 HRD6 HTD6 hs6
          generalize w6.drewN nq = w7 at *
          have ft := free_own HT7.out len1
          have f1 := free_of_heap HX7.out 1
          have f2 := free_of_heap HX7.out 2
          have HXF : Hid ((w7.setCell ⟨xq, 2, none⟩ (.slice (some ⟨t, 0, none⟩) len1 tc')).heap[xq]? = some (.cells #[.slice (some ⟨r, 0, none⟩) 4 rc', .int .i64 ((sp : Int) + 1), .slice (some ⟨t, 0, none⟩) len1 tc', .bool false] 84 (0, 0))) := Lib.hid (heap_set_same HX7.out 2 _)
          have HZF := Lib.hid ((heap_set_other (w := w7) (g := xq) (b := wb + 1) (by omega) 2 (.slice (some ⟨t, 0, none⟩) len1 tc')).trans HZ7.out)
          have hg := grown_cell1 w7 xq 2 (.slice (some ⟨t, 0, none⟩) len1 tc')
          have HEF := Lib.hid (grown_then HE7.out hg (by have := hWB.out; omega))
          have HRF := Lib.hid (OI.kept_ne HR7.out hg (by omega))
          have HTF := Lib.hid (OI.kept_ne (OI.dropL HT7.out) hg (by omega))
          have HMF := Lib.hid (OI.kept_ne HM7.out hg (by omega))
          clear hg
          go_upto_region 30 with fail
          refine wp_region_lit (fin_row _ _ _ _ rfl rfl rfl rfl _ _ _ _ _ _ HXF.out HZF.out rfl rfl rfl _ (Tryz.underlying84) rfl (by kernel_rfl) rfl (by simp [Value.oneCell']) ?_)
          have hz9 := heap_setRow_same (cs := #[.slice (some ⟨r, 0, none⟩) 4 rc', .int .i64 ((sp : Int) + 1), .slice (some ⟨t, 0, none⟩) len1 tc', .bool false]) HZF.out
          go_wp2_with fail
          refine ret_cell Tryz.results65 _ rfl _ _ _ hz9 _ (Tryz.underlying84) rfl (by kernel_rfl) rfl ?_
          rw [HSM.out]
          have hfp := fin_pack (s' := ⟨sr, sp + 1, st.dropLast, false⟩) hWB.out HEF.out HRF.out HTF.out HNE.out HMF.out (by omega)
          unfold lnV at hfp
          simp only [hdl] at hfp
          exact hfp
    · have hy2 : (yo == 13) = false := beq_eq_false_iff_ne.2 hy
      rw [hy2] at HSM
      simp only [Bool.false_eq_true, if_false] at HSM
      go_upto_region 30 with fail
      refine wp_region_lit (fin_row _ _ _ _ rfl rfl rfl rfl _ _ _ _ _ _ HX6.out HZ6.out rfl rfl rfl _ (Tryz.underlying84) rfl (by kernel_rfl) rfl (by simp [Value.oneCell']) ?_)
      have hz9 := heap_setRow_same (cs := #[.slice (some ⟨r, 0, none⟩) 4 rc', .int .i64 ((sp : Int) + 1), .slice (some ⟨t, 0, none⟩) st.length tc', .bool false]) HZ6.out
      go_wp2_with fail
      refine ret_cell Tryz.results65 _ rfl _ _ _ hz9 _ (Tryz.underlying84) rfl (by kernel_rfl) rfl ?_
      rw [HSM.out]
      exact fin_pack hWB.out HE6.out HR6.out HT6.out HNE.out HM6.out (by omega)

end Go.Proofs.YtelbfeidpcojmaaGreat
