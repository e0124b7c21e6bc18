/- What impl.blocks says of the blocks around a place. -/
import Derived.Test.YtfgbbajkdpideaaBlocks0
namespace Go.Proofs.Ytfgbbajkdpideaa
open Go.RowKit
set_option linter.unusedVariables false
set_option linter.unusedSimpArgs false

theorem app_rowA {w : World} {ops : Array Oper} {rest : List Oper} {o : Oper} {a : Act} {Q : Exit → Act → World → Prop} (t e : TypeId) (z : Value) (size bytes : Nat) (ht : Try.prog.underlying t = some (.slice e)) (hinfo : (Try.prog.info? e).map (fun i => (i.zero, i.size, i.bytes)) = some (some z, size, bytes)) (hzs : z.cells.size = size) (hsz : 0 < size) (hby : bytes ≤ 64)
    (hgd : o.guard = none) (s x : Operand) (ho : o.op = .call { callee := .builtin .append, args := #[s, x], argTypes := #[t, t] })
    (base : Nat) (A : Option Addr) (n c : Nat) (xs : List Value) (hown : OR w base e size A n c xs) (hs : a.eval s = .slice A n c)
    (g m cc : Nat) (news : List Value) (hx : a.eval x = .slice (some ⟨g, 0, none⟩) m cc) (hl : news.length = m * size) (hm : 0 < m) (hc : ∀ j u, news[j]? = some u → w.cell? ⟨g, j, none⟩ = some u)
    (h1 : ∀ u ∈ news, u.oneCell' = true) (hn : n + m ≤ 1000000000000) (hbase : base ≤ w.heap.size)
    (hK : ∀ A' c' w', OR w' base e size A' (n + m) c' (xs ++ news) → w.grownBy w' (Value.ownBlock (.slice A n c)) → (Value.ownBlock (.slice A' (n + m) c') = Value.ownBlock (.slice A n c) ∨ Value.ownBlock (.slice A' (n + m) c') = some w.heap.size) → wpList Try.prog ops Q rest (a.put o.dst (.slice A' (n + m) c')) w') :
    wpList Try.prog ops Q (o :: rest) a w := by
  obtain ⟨i0, hi, hz0, hz1, hz2⟩ := info_parts hinfo
  have hb : (n + m) * bytes ≤ 140737488355328 := Nat.le_trans (Nat.mul_le_mul_left _ hby) (by omega)
  refine wpList_append_own_at _ hgd s x t ho base e i0 z size bytes ht hi hz0 hz1 hz2 hzs hsz _ _ _ hs hown ⟨g, 0, none⟩ m cc news hx hl (one_row hc) h1 (by unfold maxLen; omega) hb hbase ?_
  intro v' w' hown' hgrow _ hat
  obtain ⟨A', c', rfl, h'⟩ := OR.slice_ hown'
  exact hK A' c' w' h' hgrow hat

/-- What stands at place j of the row 'around'. -/
def AroAt (w : World) (l : List Cd) (ga : Nat → Nat) (sb : Option Nat) (wr : World) (j : Nat) : Prop :=
  ∃ (A : Option Addr) (n c : Nat), wr.cell? ⟨w.heap.size, j, none⟩ = some (.slice A n c) ∧ n ≤ 3 ∧
    ((n = 0 ∧ aroundOf l j = -1) ∨ ∃ (g p : Nat) (cur : Array Value), A = some ⟨g, 0, none⟩ ∧ 0 < n ∧ aroundOf l j = (p : Int) ∧ p < j ∧ opB (cdAt l p) = true ∧ w.heap.size + 2 ≤ g ∧ sb ≠ some g ∧
      wr.heap[g]? = some (.cells cur 71 (0, 0)) ∧ cur[n - 1]? = some (ptrV ga p))
def AroW (w : World) (l : List Cd) (k : Nat) (ga : Nat → Nat) (sb : Option Nat) (wr : World) : Prop := ∀ j, j < k → AroAt w l ga sb wr j

section
variable {w wr w' : World} {l : List Cd} {k : Nat} {st : List Nat} {ga ga' : Nat → Nat} {oth en : Nat → Int} {As : Option Addr} {cs : Nat} {sb sb' : Option Nat}
theorem AroW.keep (h : AroW w l k ga sb wr) (hc : ∀ j v, j < k → wr.cell? ⟨w.heap.size, j, none⟩ = some v → w'.cell? ⟨w.heap.size, j, none⟩ = some v)
    (hg : ∀ g cur, w.heap.size + 2 ≤ g → sb ≠ some g → wr.heap[g]? = some (.cells cur 71 (0, 0)) → w'.heap[g]? = some (.cells cur 71 (0, 0)) ∧ sb' ≠ some g)
    (ha : ∀ p j, p < j → j < k → ga' p = ga p) : AroW w l k ga' sb' w' := by
  intro j hj
  obtain ⟨A, n, c, h1, hn3, h2⟩ := h j hj
  refine ⟨A, n, c, hc j _ hj h1, hn3, h2.imp id ?_⟩
  rintro ⟨g, p, cur, e1, e2, e3, e4, e5, e6, e7, e8, e9⟩
  obtain ⟨k1, k2⟩ := hg g cur e6 e7 e8
  exact ⟨g, p, cur, e1, e2, e3, e4, e5, e6, k2, k1, by rw [e9]; simp only [ptrV, ha p j e4 hj]⟩
theorem AroW.ext (h : AroW w l k ga sb wr) (hx : Ext wr w') : AroW w l k ga sb w' :=
  h.keep (fun _ _ _ hv => hx.cell hv) (fun _ _ _ h2 h3 => ⟨hx.heap_ h3, h2⟩) (fun _ _ _ _ => rfl)
theorem AroW.arr (h : AroW w l k ga sb wr) (u : Value) : AroW w l k ga sb (wr.setCell ⟨w.heap.size, k, none⟩ u) :=
  h.keep (fun j v hj hv => by rw [World.cell?_setCell_other _ _ _ _ (by simp <;> omega)]; exact hv) (fun g cur h1 h2 h3 => ⟨by rw [heap_set_other (by omega)]; exact h3, h2⟩) (fun _ _ _ _ => rfl)
theorem AroW.own (h : AroW w l k ga sb wr) (i : Nat) (u : Value) : AroW w l k ga sb (wr.setCell ⟨w.heap.size + 1, i, none⟩ u) :=
  h.keep (fun j v hj hv => by rw [World.cell?_setCell_other _ _ _ _ (by simp)]; exact hv) (fun g cur h1 h2 h3 => ⟨by rw [heap_set_other (by omega)]; exact h3, h2⟩) (fun _ _ _ _ => rfl)
/-- A field of a block of the program is written. -/
theorem AroW.fld (h : AroW w l k ga sb wr) {b f : Nat} {cs0 : Array Value} (hb : w.heap.size + 2 ≤ b) (hw : wr.heap[b]? = some (.cells cs0 70 (0, 0))) (u : Value) : AroW w l k ga sb (wr.setCell ⟨b, f, none⟩ u) :=
  h.keep (fun j v hj hv => by rw [World.cell?_setCell_other _ _ _ _ (by simp <;> omega)]; exact hv) (fun g cur h1 h2 h3 => by
    have hne : g ≠ b := fun e => by
      rw [e, hw] at h3
      injection h3 with h3
      injection h3 with _ h4
      exact absurd h4 (by decide)
    exact ⟨by rw [heap_set_other hne]; exact h3, h2⟩) (fun _ _ _ _ => rfl)
theorem AroW.grown (h : AroW w l k ga sb wr) (hs : w.heap.size < wr.heap.size) (hg : wr.grownBy w' sb) (h0 : sb ≠ some w.heap.size) (hat : sb' = sb ∨ sb' = some wr.heap.size) (ha : ∀ p j, p < j → j < k → ga' p = ga p) : AroW w l k ga' sb' w' :=
  h.keep (fun j v hj hv => hg.cell (a := ⟨w.heap.size, j, none⟩) hv (by first | exact h0 | exact fun e => h0 e.symm | exact Ne.symm h0)) (fun g cur h1 h2 h3 => by
    have hlt := lt_of_block h3
    refine ⟨(hg.block g hlt (fun e => h2 e.symm)).trans h3, ?_⟩
    rcases hat with e | e
    · rw [e]; exact h2
    · rw [e]; intro e2; have := Option.some.inj e2; omega) ha
/-- The next place: its row is a copy of the stack. -/
theorem AroW.next (h : AroW w l k ga sb wr) {A' : Option Addr} {c' : Nat} (hP : PInv l k st oth en) (hc : wr.cell? ⟨w.heap.size, k, none⟩ = some (.slice A' st.length c'))
    {b : Nat} {w3 : World} (hb : w.heap.size + 2 ≤ b) (ho : OR w3 b 71 1 A' st.length c' (st.reverse.map (ptrV ga))) (hsb : ∀ g, sb = some g → g < b) (hk : ∀ g, b ≤ g → ∀ o, w3.heap[g]? = some o → wr.heap[g]? = some o) : AroW w l (k + 1) ga sb wr := by
  intro j hj
  by_cases e : j < k
  · exact h j e
  · obtain rfl : j = k := by omega
    refine ⟨A', st.length, c', hc, hP.s3, ?_⟩
    cases st with
    | nil =>
      left
      have := hP.aro 0
      simp at this
      exact ⟨rfl, this⟩
    | cons p s =>
      right
      have ha := hP.aro 0
      simp at ha
      have hst := hP.st_lt p (by simp)
      have hcell := ho
      rcases ho.2 with ⟨hv, h0⟩ | ⟨g, cap, cur, hv, hbg, hg, _⟩
      · exfalso
        injection hv with hA hn _
        simp at hn
      · injection hv with hA hn _
        subst hA
        have hb2 := (OR.base_le hcell).1
        refine ⟨g, p, cur, rfl, by simp, ha, hst.1, hst.2, by omega, fun e => by have := hsb g e; omega, hk g hb2 _ hg, ?_⟩
        have := hcell.at0.1 s.length (ptrV ga p) (by simp)
        rw [cell_of_row w3 g s.length cur 71 (0, 0) hg] at this
        simpa using this
end

def BlkPostA (w : World) (l : List Cd) (e : Ending) (w' : World) : Prop :=
  Below w.heap.size w w' ∧
    ((pvRun [] l = some [] ∧ e = .returned (.tuple #[.slice (some ⟨w.heap.size, 0, none⟩) l.length l.length, .slice (some ⟨w.heap.size + 1, 0, none⟩) l.length l.length, .bool true]) ∧
      ∃ ga oth en As cs, WInv w l l.length [] ga oth en As cs w' ∧ PInv l l.length [] oth en ∧ AroW w l l.length ga (Value.ownBlock (.slice As 0 cs)) w') ∨
    (pvRun [] l ≠ some [] ∧ ∃ v1 v2, e = .returned (.tuple #[v1, v2, .bool false])))
theorem BlkPostA.no {w w' : World} {l : List Cd} {v1 v2 : Value} (hb : Below w.heap.size w w') (h : pvRun [] l = none) : BlkPostA w l (.returned (.tuple #[v1, v2, .bool false])) w' :=
  ⟨hb, .inr ⟨by rw [h]; simp, _, _, rfl⟩⟩
def BRelA (w : World) (l : List Cd) (sv iv : Value) (wr : World) : Prop :=
  ∃ (k : Nat) (st : List Nat) (ga : Nat → Nat) (oth en : Nat → Int) (As : Option Addr) (cs : Nat),
    sv = .slice As st.length cs ∧ iv = .int .i64 k ∧ WInv w l k st ga oth en As cs wr ∧ PInv l k st oth en ∧ Hid (AroW w l k ga (Value.ownBlock (.slice As st.length cs)) wr)

set_option maxRecDepth 100000 in
set_option maxHeartbeats 4000000 in
theorem blocksA_c (A : Option Addr) (c : Nat) (l : List Cd) (w : World) (hA : RdC w w.heap.size A l) (hl : l.length ≤ 1000) (hv : ∀ x, x ∈ l → cvOk x = true) :
    Calls Try.prog 22 #[.slice A l.length c] w (BlkPostA w l) := by
  have hm1 := make_blkP l.length (by omega)
  have hm2 := make_blkS l.length (by omega)
  go_enter Try.func22, Try.ntmps22
  go_wp2
  have hz1 := zeroRow_size (.slice none 0 0) l.length
  have hz2 := zeroRow_size (.pointer none) l.length
  have hz3 : (zeroRow (.pointer none) l.length).toList = ownRow l (fun _ => 0) 0 := by rw [ownRow_zero]; exact toList_madeCells_one _ _
  have hW : WInv w l 0 [] (fun _ => 0) (fun _ => -1) (fun _ => -1) none 0 ((w.alloc (.cells (zeroRow (.slice none 0 0) l.length) 46)).alloc (.cells (zeroRow (.pointer none) l.length) 71)) := by
    refine ⟨⟨_, (OR.lit w w.heap.size _ 1 l.length _ (Nat.le_refl _) (by omega) (by rw [hz1]; omega)).alloc _⟩, ?_, OR.nil_ _ _ _ _, fun p hp => by omega, fun p q hp => by omega, (by repeat (first | exact Below.refl _ _ | assumption | refine Below.alloc ?_ (by simp <;> omega) _ | refine Below.setCell ?_ (by simp <;> omega) _ | refine Below.drew ?_)), by simp⟩
    have := OR.lit (w.alloc (.cells (zeroRow (.slice none 0 0) l.length) 46)) w.heap.size 71 1 l.length _ (by simp) (by omega) (show (zeroRow (.pointer none) l.length).size = l.length * 1 by rw [hz2]; omega)
    rw [hz3] at this
    simpa using this
  generalize (w.alloc (.cells (zeroRow (.slice none 0 0) l.length) 46)).alloc (.cells (zeroRow (.pointer none) l.length) 71) = w0 at *
  clear hz1 hz2 hz3 hm1 hm2
  go_loopw [7, 19] (fun sv iv wr => BRelA w l sv iv wr) (fun _ i _ => l.length - (intOf i).toNat)
  case atStart => exact ⟨0, [], _, _, _, none, 0, rfl, rfl, hW, PInv.start l, Lib.hid (fun j hj => absurd hj (Nat.not_lt_zero _))⟩
  case round =>
    obtain ⟨k, st, ga, oth, en, As, cs, rfl, rfl, hI, hP, HA⟩ := hrel
    clear hW
    have hk := hP.hk
    by_cases hlt : k < l.length
    · obtain ⟨b, off, x, rfl, hbB, hx, c0, c1, c2, c3⟩ := (hA.below hI.bel).at_ hlt
      have hvx := hv x (List.mem_of_getElem? hx)
      have HX := Lib.hid hx
      clear hx
      have hs3 := hP.s3
      have hsz := hI.siz
      obtain ⟨arv, harr⟩ := hI.arr
      have hB : OR ((wr.alloc (.cells #[.int .i64 x.op, .int .i64 x.a, .int .i64 x.b, .int .i64 x.c] 50)).alloc (.cells #[] 71)) (wr.heap.size + 1) 71 1 (some ⟨wr.heap.size + 1, 0, none⟩) 0 0 [] := by
        have := OR.lit ((wr.alloc (.cells #[.int .i64 x.op, .int .i64 x.a, .int .i64 x.b, .int .i64 x.c] 50))) (wr.heap.size + 1) 71 1 0 #[] (by simp) (by omega) rfl
        simpa using this
      have HB := Lib.hid hB
      clear hB
      have HS := Lib.hid ((hI.stk.alloc (.cells #[.int .i64 x.op, .int .i64 x.a, .int .i64 x.b, .int .i64 x.c] 50)).alloc (.cells #[] 71))
      go_wp2_with (at_builtin; go_loud (refine app_own 46 71 _ 1 8 Try.underlying46 infoBlkP rfl (by decide) (by decide) rfl _ _ rfl _ _ _ _ _ HB.out rfl _ _ _ _ _ HS.out rfl ?ho ?hn ?hb ?_))
      case ho => intro u hu; simp [ptrV] at hu; obtain ⟨p, _, rfl⟩ := hu; rfl
      case hn => omega
      case hb => simp
      intro A' c' w3 ho3 hg3
      have hX3 : Ext wr w3 := ((Ext.alloc wr (.cells #[.int .i64 x.op, .int .i64 x.a, .int .i64 x.b, .int .i64 x.c] 50)).trans (Ext.alloc _ (.cells #[] 71))).grown hg3 (fun k hk => by simp [Value.ownBlock] at hk; omega)
      have hI3 := hI.ext hX3
      have HA3 := Lib.hid (HA.out.ext hX3)
      have HO3 := Lib.hid ho3
      have HSB := Lib.hid (fun g (e : Value.ownBlock (.slice As st.length cs) = some g) => (hI.stk.block g e).2)
      have hop3 : w3.cell? ⟨wr.heap.size, 0, none⟩ = some (.int .i64 x.op) := hg3.cell (a := ⟨wr.heap.size, 0, none⟩) (by simp [go_sem]) (by simp [Value.ownBlock])
      have hne1 : ¬ wr.heap.size = w.heap.size := by omega
      have hne2 : ¬ w.heap.size + 1 = w3.heap.size := by have := hI3.siz; omega
      have hlt2 : w.heap.size + 1 < w3.heap.size := by have := hI3.siz; omega
      have hlt3 : w.heap.size < w3.heap.size := by have := hI3.siz; omega
      obtain ⟨arv3, harr3⟩ := hI3.arr
      obtain ⟨u0, hu0⟩ := harr3.some_cell k (by omega)
      have hu1 := harr3.at0.2.1 k
      have hne0 : ¬ w.heap.size = wr.heap.size := by omega
      have HK3 := Lib.hid (fun u => (harr3.at0.2.2 k u).at0.1 k u (by rw [List.getElem?_set_self (by rw [harr3.1]; omega)]))
      clear HB HS harr3 hg3 ho3 harr
      go_upto_region 8 with (fail)
      have hI4 := hI3.set_arr k (.slice A' st.length c')
      have HA4 := Lib.hid ((HA3.out.arr (.slice A' st.length c')).next hP (HK3.out _) (b := wr.heap.size + 1) (by omega) (by simpa using HO3.out) (fun g e => by have := HSB.out g e; omega) (fun g hg o ho => by rw [heap_set_other (by omega)]; exact ho))
      clear HA HA3 HO3 HSB HK3
      have hop4 : (w3.setCell ⟨w.heap.size, k, none⟩ (.slice A' st.length c')).cell? ⟨wr.heap.size, 0, none⟩ = some (.int .i64 x.op) := by rw [World.cell?_setCell_other _ _ _ _ (by simp [hne1])]; exact hop3
      clear hop3 hu0 hu1
      generalize w3.setCell ⟨w.heap.size, k, none⟩ (.slice A' st.length c') = w4 at *
      clear hI3 hX3 hne2 hlt2 hlt3
      have hne2 : ¬ w.heap.size + 1 = w4.heap.size := by have := hI4.siz; omega
      have hlt2 : w.heap.size + 1 < w4.heap.size := by have := hI4.siz; omega
      have hlt3 : w.heap.size < w4.heap.size := by have := hI4.siz; omega
      by_cases hoB : opB x = true
      · have ho' : x.op = 11 ∨ x.op = 13 := by simpa [opB] using hoB
        have ho1 := hI4.own.at0.1 k _ (ownRow_get l ga k k hlt)
        have ho2 := hI4.own.at0.2.1 k
        rw [if_neg (Nat.lt_irrefl _)] at ho1
        rcases ho' with h | h
        all_goals
          first | have e11 : (x.op == 11) = true := by simp [h] | have e11 : (x.op == 11) = false := by simp [h]
          first | have e13 : (x.op == 13) = true := by simp [h] | have e13 : (x.op == 13) = false := by simp [h]
          clear h
          have hs5 := ((hI4.stk.set_other (p := ⟨w.heap.size + 1, k, none⟩) (ownBlock_ne (w := w) hI4.stk (by simp)) (.pointer (some ⟨w4.heap.size, 0, none⟩))).alloc (.cells #[.int .i64 k, .int .i64 (-1), .int .i64 (-1)] 70)).alloc (.cells #[.pointer (some ⟨w4.heap.size, 0, none⟩)] 71)
          have HS5 := Lib.hid hs5
          clear hs5
          by_cases h3 : st.length < 3
          · have h4 : ¬ 3 < st.length + 1 := by omega
            go_wp2_with (at_builtin; refine app_rowA 46 71 _ 1 8 Try.underlying46 infoBlkP rfl (by decide) (by decide) rfl _ _ rfl (w.heap.size + 2) _ _ _ _ HS5.out rfl (w4.heap.size + 1) 1 1 [.pointer (some ⟨w4.heap.size, 0, none⟩)] rfl rfl (by omega) ?hc ?h1 ?hn ?hb ?_)
            case hc =>
              intro j u hu
              match j, hu with
              | 0, hu => simp at hu; subst hu; simp [go_sem]
            case h1 => intro u hu; simp at hu; subst hu; rfl
            case hn => omega
            case hb => have := hI4.siz; simp; omega
            intro A2 c2 w6 ho6 hg6 hat6
            clear HS5
            have HA6 := Lib.hid ((((HA4.out.own k (.pointer (some ⟨w4.heap.size, 0, none⟩))).ext (Ext.alloc _ (.cells #[.int .i64 k, .int .i64 (-1), .int .i64 (-1)] 70))).ext (Ext.alloc _ (.cells #[.pointer (some ⟨w4.heap.size, 0, none⟩)] 71))).grown (ga' := updN ga k w4.heap.size) (by simp; omega) hg6 (ownBlock_ne (w := w) hI4.stk (by simp)) (sb' := Value.ownBlock (.slice A2 (st.length + 1) c2)) (by simpa using hat6) (fun p j h1 h2 => by simp [updN]; omega))
            go_wp2
            go_roundw
            case rel => exact ⟨k + 1, k :: st, _, _, _, A2, c2, rfl, by go_num, hI4.push (fun p hp => (hP.st_lt p hp).1) hlt (by rw [cdAt_get HX.out]; exact hoB) (by rw [List.map_reverse]; exact ho6) hg6, hP.open_ HX.out hvx hoB h3, HA6⟩
            case measure => simp [intOf]; omega
          · have h4 : 3 < st.length + 1 := by omega
            go_wp2_with (at_builtin; refine app_rowA 46 71 _ 1 8 Try.underlying46 infoBlkP rfl (by decide) (by decide) rfl _ _ rfl (w.heap.size + 2) _ _ _ _ HS5.out rfl (w4.heap.size + 1) 1 1 [.pointer (some ⟨w4.heap.size, 0, none⟩)] rfl rfl (by omega) ?hc ?h1 ?hn ?hb ?_)
            case hc =>
              intro j u hu
              match j, hu with
              | 0, hu => simp at hu; subst hu; simp [go_sem]
            case h1 => intro u hu; simp at hu; subst hu; rfl
            case hn => omega
            case hb => have := hI4.siz; simp; omega
            intro A2 c2 w6 ho6 hg6 hat6
            clear HS5
            go_wp2
            go_ret3
            have hI6 := hI4.push (fun p hp => (hP.st_lt p hp).1) hlt (by rw [cdAt_get HX.out]; exact hoB) (by rw [List.map_reverse]; exact ho6) hg6
            refine .no hI6.bel (pv_none HX.out hP.pvs ?_)
            have ho2 : x.op = 11 ∨ x.op = 13 := by simpa [opB] using hoB
            rcases ho2 with h | h <;> simp [pvStep, hvx, h, Nat.not_lt.1 h3]
      · have hoF : opB x = false := by simpa using hoB
        have n11 : x.op ≠ 11 := fun e => hoB (by simp [opB, e])
        have n13 : x.op ≠ 13 := fun e => hoB (by simp [opB, e])
        have e11 : (x.op == 11) = false := beq_eq_false_iff_ne.2 n11
        have e13 : (x.op == 13) = false := beq_eq_false_iff_ne.2 n13
        by_cases h12 : x.op = 12
        · have e12 : (x.op == 12) = true := beq_iff_eq.2 h12
          have HO := Lib.hid h12
          clear n11 n13 hoB h12
          cases st with
          | nil =>
            go_wp2
            go_ret3
            refine .no hI4.bel (pv_none HX.out hP.pvs ?_)
            have := HO.out
            simp [pvStep, hvx, this]
          | cons p st =>
            have hp := hP.st_lt p (by simp)
            have hpl : p < l.length := by omega
            obtain ⟨g, rfl, hg1, hg2, hcell, hfr, -⟩ := hI4.stk.at_ (by simp)
            have hst := hcell st.length (.pointer (some ⟨ga p, 0, none⟩)) (by simp [ptrV])
            have hbk := hI4.blk p hp.1 hp.2
            have d0 : w4.cell? ⟨ga p, 0, none⟩ = some (.int .i64 p) := cell_of_heap hbk.2 0
            have d1 : w4.cell? ⟨ga p, 1, none⟩ = some (.int .i64 (oth p)) := cell_of_heap hbk.2 1
            have df := free_of_heap hbk.2 1
            have ho1 := hI4.own.at0.1 k _ (ownRow_get l ga k k hlt)
            have ho2 := hI4.own.at0.2.1 k
            rw [if_neg (Nat.lt_irrefl _)] at ho1
            have hxp : l[p]? = some (cdAt l p) := by rw [List.getElem?_eq_getElem hpl, cdAt_get (List.getElem?_eq_getElem hpl)]
            have hlp := ((hA.below hI4.bel).at0 hxp).2.1
            have hbk1 := hbk.1
            have hp1 := hp.1
            have hgne1 : ¬ g = w.heap.size + 1 := by omega
            have hgne2 : ¬ ga p = w.heap.size + 1 := by omega
            have hgne3 : ¬ b = w.heap.size + 1 := by omega
            have HP := Lib.hid hp
            have HBK := Lib.hid hbk
            have HXP := Lib.hid hxp
            clear hbk hfr hcell hp hxp
            have hs2 : st.length ≤ 2 := by simp at hs3; omega
            have HP0 := Lib.hid hP
            have HI := Lib.hid hI4
            have HF := Lib.hid hoF
            have HV := Lib.hid hvx
            by_cases hif : (cdAt l p).op = 11
            · have eif : ((cdAt l p).op != 11) = false := by simp [hif]
              have HIF := Lib.hid hif
              clear hif
              by_cases hot : oth p < 0
              · have eot : ¬ 0 ≤ oth p := by omega
                clear hP hI hI4 hA hv hs3 hsz hoF hvx hk
                go_wp2_with fail
                go_roundw
                case rel =>
                  refine ⟨k + 1, p :: st, ga, updI oth p k, en, _, cs, rfl, by go_num, ?_, HP0.out.els_ HX.out HV.out HO.out HIF.out hot, Lib.hid ((HA4.out.own k _).fld HBK.out.1 (by rw [heap_set_other (by have := HBK.out.1; omega)]; exact HBK.out.2) _)⟩
                  refine HI.out.set_blk (by rw [cdAt_get HX.out]; exact HF.out) HP.out.1 HP.out.2 hlt (own_close ga HP0.out HX.out HF.out (.inl HO.out)) k _ _ (fun q hq hoq => ?_)
                  by_cases e : q = p
                  · subst e; simp [updI]
                  · simp [updI, e]
                case measure => simp [intOf]; omega
              · have eot : 0 ≤ oth p := by omega
                clear hP hI hI4 hA hv hs3 hsz hoF hvx hk
                go_wp2_with fail
                go_ret3
                refine .no HI.out.bel (pv_none HX.out HP0.out.pvs ?_)
                have em : mark l oth p = 12 := by simp [mark, HIF.out, eot]
                simp [pvStep, HV.out, HO.out, em]
            · have eif : ((cdAt l p).op != 11) = true := by simp [hif]
              have HIF := Lib.hid hif
              clear hif hP hI hI4 hA hv hs3 hsz hoF hvx hk
              go_wp2_with fail
              go_ret3
              refine .no HI.out.bel (pv_none HX.out HP0.out.pvs ?_)
              have h13 : (cdAt l p).op = 13 := by
                have := HP.out.2
                simp [opB, HIF.out] at this
                exact this
              have em : mark l oth p = 13 := by simp [mark, h13]
              simp [pvStep, HV.out, HO.out, em]
        · have e12 : (x.op == 12) = false := beq_eq_false_iff_ne.2 h12
          by_cases h14 : x.op = 14
          · have e14 : (x.op == 14) = true := beq_iff_eq.2 h14
            have HO := Lib.hid h14
            clear n11 n13 hoB h12 h14
            cases st with
            | nil =>
              go_wp2
              go_ret3
              refine .no hI4.bel (pv_none HX.out hP.pvs ?_)
              have := HO.out
              simp [pvStep, hvx, this]
            | cons p st =>
              have hp := hP.st_lt p (by simp)
              obtain ⟨g, rfl, hg1, hg2, hcell, hfr, -⟩ := hI4.stk.at_ (by simp)
              have hst := hcell st.length (.pointer (some ⟨ga p, 0, none⟩)) (by simp [ptrV])
              have hbk := hI4.blk p hp.1 hp.2
              have d2 : w4.cell? ⟨ga p, 2, none⟩ = some (.int .i64 (en p)) := cell_of_heap hbk.2 2
              have df := free_of_heap hbk.2 2
              have ho1 := hI4.own.at0.1 k _ (ownRow_get l ga k k hlt)
              have ho2 := hI4.own.at0.2.1 k
              rw [if_neg (Nat.lt_irrefl _)] at ho1
              have hbk1 := hbk.1
              have hp1 := hp.1
              have hgne1 : ¬ g = w.heap.size + 1 := by omega
              have hgne2 : ¬ ga p = w.heap.size + 1 := by omega
              have HBK := Lib.hid hbk
              have hgne4 : ¬ g = ga p := fun e => hI4.ga_ne_stk hp.1 hp.2 (by simp [Value.ownBlock, e])
              have h5 : st.length ≤ cs := by have := hI4.stk.cap_; simp at this; omega
              have hs2 : st.length ≤ 2 := by simp at hs3; omega
              have HP := Lib.hid hp
              have HP0 := Lib.hid hP
              have HI := Lib.hid hI4
              have HF := Lib.hid hoF
              have HV := Lib.hid hvx
              clear hbk hfr hcell hp hP hI hI4 hA hv hs3 hsz hoF hvx hk
              go_wp2_with fail
              go_roundw
              case rel =>
                refine ⟨k + 1, st, ga, oth, updI en p k, _, cs, rfl, by go_num, ?_, HP0.out.end_ HX.out HV.out HO.out, Lib.hid ((HA4.out.own k _).fld HBK.out.1 (by rw [heap_set_other (by have := HBK.out.1; omega)]; exact HBK.out.2) _)⟩
                refine WInv.pop (p := p) ?_ rfl
                refine HI.out.set_blk (by rw [cdAt_get HX.out]; exact HF.out) HP.out.1 HP.out.2 hlt (own_close ga HP0.out HX.out HF.out (.inr HO.out)) k _ _ (fun q hq hoq => ?_)
                by_cases e : q = p
                · subst e; simp [updI]
                · simp [updI, e]
              case measure => simp [intOf]; omega
          · have e14 : (x.op == 14) = false := beq_eq_false_iff_ne.2 h14
            have hx := HX.out
            have hN := hI4.next hlt (by rw [cdAt_get hx]; exact hoF) (by rw [cdAt_get hx]; exact h12) (by rw [cdAt_get hx]; exact h14)
            have hQ := hP.same_ hx hvx hoF h12 h14
            have HN := Lib.hid hN
            have HQ := Lib.hid hQ
            clear hx hN hQ hP hI hI4 hA hv hsz hoF hvx hk n11 n13 h12 h14
            go_wp2_with fail
            go_roundw
            case rel => exact ⟨k + 1, st, ga, oth, en, As, cs, rfl, by go_num, HN.out, HQ.out, HA4⟩
            case measure => simp [intOf]; omega
    · obtain rfl : k = l.length := by omega
      have hp := hP.pvs
      rw [List.take_length] at hp
      have HP := Lib.hid hP
      have HQ := Lib.hid hp
      have HI := Lib.hid hI
      have hs3 := hP.s3
      clear hp hP hI hA hv hk
      cases st with
      | nil =>
        go_wp2_with fail
        go_ret3
        exact ⟨HI.out.bel, .inl ⟨HQ.out, rfl, ga, oth, en, As, cs, HI.out, HP.out, HA.out⟩⟩
      | cons p st =>
        have hs2 : st.length ≤ 2 := by simp at hs3; omega
        have hnz : (((st.length : Int) + 1) == 0) = false := by rw [beq_eq_false_iff_ne]; omega
        clear hs3
        go_wp2_with fail
        go_ret3
        exact ⟨HI.out.bel, .inr ⟨by rw [HQ.out]; simp, _, _, rfl⟩⟩
end Go.Proofs.Ytfgbbajkdpideaa
