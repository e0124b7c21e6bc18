/- Names of registers do not matter: plain Lean, no program in sight. -/
import Derived.Test.YtcpjhlkcfohkiaaSemPick
namespace Go.Proofs.Ytcpjhlkcfohkiaa
set_option linter.unusedVariables false
set_option linter.unusedSimpArgs false

/-- New names for the four registers. -/
structure Names (f : Int → Int) : Prop where
  bd : ∀ r, 0 ≤ r → r ≤ 3 → 0 ≤ f r ∧ f r ≤ 3
  inj : ∀ r q, 0 ≤ r → r ≤ 3 → 0 ≤ q → q ≤ 3 → f r = f q → r = q
/-- The registers of a lane under other names. -/
def RR (f : Int → Int) (r r' : List Int) : Prop := r.length = 4 ∧ r'.length = 4 ∧ ∀ i, 0 ≤ i → i ≤ 3 → rg r' (f i) = rg r i
theorem rg_set (r : List Int) (a i v : Int) (hr : r.length = 4) (ha : 0 ≤ a ∧ a ≤ 3) (hi : 0 ≤ i ∧ i ≤ 3) : rg (r.set a.toNat v) i = if i = a then v else rg r i := by
  unfold rg
  rw [List.getD_eq_getElem?_getD, List.getD_eq_getElem?_getD, List.getElem?_set]
  by_cases e : i = a
  · subst e
    rw [if_pos rfl, if_pos (by omega), if_pos rfl]
    rfl
  · rw [if_neg (by omega), if_neg e]
theorem RR.set {f : Int → Int} (hf : Names f) {r r' : List Int} (h : RR f r r') {a : Int} (ha : 0 ≤ a ∧ a ≤ 3) (v : Int) : RR f (r.set a.toNat v) (r'.set (f a).toNat v) := by
  obtain ⟨h1, h2, h3⟩ := h
  refine ⟨by simp [h1], by simp [h2], fun i i0 i3 => ?_⟩
  rw [rg_set r' (f a) (f i) v h2 (hf.bd a ha.1 ha.2) (hf.bd i i0 i3), rg_set r a i v h1 ha ⟨i0, i3⟩, h3 i i0 i3]
  by_cases e : i = a
  · subst e; simp
  · rw [if_neg e, if_neg (fun h => e (hf.inj i a i0 i3 ha.1 ha.2 h))]
theorem ren_op (f : Int → Int) (x : Cd) : (ren f x).op = x.op := by
  unfold ren
  repeat' split
  all_goals rfl
theorem ren_simp1 {f : Int → Int} (hf : Names f) {x : Cd} (hv : cvOk x = true) (h10 : x.op ≤ 10) (id : Nat) {r r' m : List Int} (h : RR f r r') :
    RR f (simp1 x id r m).1 (simp1 (ren f x) id r' m).1 ∧ (simp1 (ren f x) id r' m).2 = (simp1 x id r m).2 ∧ (memOp x = true → rg r' (ren f x).b = rg r x.b) := by
  have ha := cvOk_a hv
  have hc := cvOk_c hv
  have hb2 := cvOk_b2 hv
  have g := h.2.2
  have S := fun v => h.set hf ha v
  have ho := op14' hv h10
  obtain ⟨o, a, b, c⟩ := x
  simp only at ha hc hb2 ho S
  have ga := g a ha.1 ha.2
  have gc := g c hc.1 hc.2
  rcases ho with rfl | rfl | rfl | rfl | rfl | rfl | rfl | rfl | rfl | rfl
  · exact ⟨S b, rfl, by simp [memOp]⟩
  · exact ⟨S id, rfl, by simp [memOp]⟩
  · have gb := g b (hb2 (by omega)).1 (hb2 (by omega)).2
    refine ⟨?_, rfl, by simp [memOp]⟩
    show RR f (r.set a.toNat _) (r'.set (f a).toNat ((rg r' (f a) + rg r' (f b)) % 256))
    rw [ga, gb]; exact S _
  · have gb := g b (hb2 (by omega)).1 (hb2 (by omega)).2
    refine ⟨?_, rfl, by simp [memOp]⟩
    show RR f (r.set a.toNat _) (r'.set (f a).toNat (rg r' (f a) * rg r' (f b) % 256))
    rw [ga, gb]; exact S _
  · have gb := g b (hb2 (by omega)).1 (hb2 (by omega)).2
    refine ⟨?_, rfl, by simp [memOp]⟩
    show RR f (r.set a.toNat _) (r'.set (f a).toNat (rg r' (f b)))
    rw [gb]; exact S _
  · have gb := g b (hb2 (by omega)).1 (hb2 (by omega)).2
    refine ⟨?_, rfl, by simp [memOp]⟩
    show RR f (r.set a.toNat _) (r'.set (f a).toNat (lessI (rg r' (f b)) (rg r' (f c))))
    rw [gb, gc]; exact S _
  · have gb := g b (hb2 (by omega)).1 (hb2 (by omega)).2
    refine ⟨?_, rfl, by simp [memOp]⟩
    show RR f (if rg r c == 0 then r else r.set a.toNat (rg r b)) (if rg r' (f c) == 0 then r' else r'.set (f a).toNat (rg r' (f b)))
    rw [gb, gc]
    cases rg r c == 0
    · exact S _
    · exact h
  · have gb := g b (hb2 (by omega)).1 (hb2 (by omega)).2
    refine ⟨?_, rfl, fun _ => gb⟩
    show RR f (r.set a.toNat _) (r'.set (f a).toNat (m.getD (rg r' (f b) % m.length).toNat 0))
    rw [gb]; exact S _
  · have gb := g b (hb2 (by omega)).1 (hb2 (by omega)).2
    refine ⟨h, ?_, fun _ => gb⟩
    show m.set (rg r' (f b) % m.length).toNat (rg r' (f a)) = m.set (rg r b % m.length).toNat (rg r a)
    rw [ga, gb]
  · exact ⟨h, rfl, by simp [memOp]⟩

/-- States that differ in the names of the registers. -/
structure RS (f : Int → Int) (n : Nat) (s t : LS) : Prop where
  ls : s.regs.length = n
  lt : t.regs.length = n
  rr : ∀ k, k < n → RR f (s.regs.getD k []) (t.regs.getD k [])
  mem : t.mem = s.mem
  beats : t.beats = s.beats
  accs : t.accs = s.accs
  phase : t.phase = s.phase
theorem getD_set_list {l : List (List Int)} {k j : Nat} (v : List Int) (hk : k < l.length) : (l.set k v).getD j [] = if j = k then v else l.getD j [] := by
  rw [List.getD_eq_getElem?_getD, List.getD_eq_getElem?_getD, List.getElem?_set]
  by_cases e : j = k
  · subst e; rw [if_pos rfl, if_pos hk, if_pos rfl]; rfl
  · rw [if_neg (fun h => e h.symm), if_neg e]
theorem RS.beat {f : Int → Int} {n : Nat} {s t : LS} (h : RS f n s t) (p m : Nat) : RS f n (beat p m s) (beat p m t) :=
  ⟨h.ls, h.lt, h.rr, h.mem, by show t.beats ++ _ = s.beats ++ _; rw [h.beats], h.accs, h.phase⟩
theorem RS.exec1 {f : Int → Int} (hf : Names f) {n : Nat} {s t : LS} (h : RS f n s t) {x : Cd} (hv : cvOk x = true) (h10 : x.op ≤ 10) {k : Nat} (hk : k < n) : RS f n (exec1 x s k) (exec1 (ren f x) t k) := by
  obtain ⟨e1, e2, e3⟩ := ren_simp1 hf hv h10 k (m := s.mem) (h.rr k hk)
  refine ⟨by simp [Proofs.Ytcpjhlkcfohkiaa.exec1, h.ls], by simp [Proofs.Ytcpjhlkcfohkiaa.exec1, h.lt], fun j hj => ?_, ?_, h.beats, ?_, h.phase⟩
  · simp only [Proofs.Ytcpjhlkcfohkiaa.exec1, h.mem]
    rw [getD_set_list _ (by rw [h.ls]; exact hk), getD_set_list _ (by rw [h.lt]; exact hk)]
    by_cases e : j = k
    · rw [if_pos e, if_pos e]; exact e1
    · rw [if_neg e, if_neg e]; exact h.rr j hj
  · simp only [Proofs.Ytcpjhlkcfohkiaa.exec1, h.mem]; exact e2
  · have em : memOp (ren f x) = memOp x := by simp [memOp, ren_op]
    simp only [Proofs.Ytcpjhlkcfohkiaa.exec1, em, h.accs, h.phase, h.mem, ren_op]
    cases hm : memOp x with
    | false => rfl
    | true =>
      have := e3 hm
      simp only [LS.reg, this, if_true]
theorem RS.execTo {f : Int → Int} (hf : Names f) {n : Nat} {s t : LS} (h : RS f n s t) {x : Cd} (hv : cvOk x = true) (h10 : x.op ≤ 10) (m : Nat) : ∀ k, k ≤ n → RS f n (execTo x m s k) (execTo (ren f x) m t k)
  | 0, _ => h
  | k + 1, hk => by
    have ih := RS.execTo hf h hv h10 m k (by omega)
    simp only [Proofs.Ytcpjhlkcfohkiaa.execTo]
    split
    · exact ih.exec1 hf hv h10 (by omega)
    · exact ih
theorem RS.execM {f : Int → Int} (hf : Names f) {n : Nat} (n8 : n ≤ 8) {s t : LS} (h : RS f n s t) {x : Cd} (hv : cvOk x = true) (h10 : x.op ≤ 10) {m : Nat} (hm : m < 2 ^ n) : RS f n (execM x m s) (execM (ren f x) m t) := by
  rw [execM_eq hm n8, execM_eq hm n8, ren_op]
  have := h.execTo hf hv h10 m n (Nat.le_refl _)
  split
  · exact ⟨this.ls, this.lt, this.rr, this.mem, this.beats, this.accs, by simp [this.phase]⟩
  · exact this
theorem RS.ones {f : Int → Int} {n : Nat} {s t : LS} (h : RS f n s t) {a : Int} (ha : 0 ≤ a ∧ a ≤ 3) {m : Nat} (hm : m < 2 ^ n) (n8 : n ≤ 8) : onesOf m (f a) t = onesOf m a s := by
  have m8 : m < 2 ^ 8 := Nat.lt_of_lt_of_le hm (Nat.pow_le_pow_right (by decide) n8)
  apply Nat.eq_of_testBit_eq
  intro i
  rw [onesOf_bit _ _ _ _ m8, onesOf_bit _ _ _ _ m8]
  by_cases hi : i < n
  · have := (h.rr i hi).2.2 a ha.1 ha.2
    simp only [LS.reg, this]
  · rw [testBit_high hm (by omega)]; rfl
/-- A tree under other names. -/
def Blk.ren (f : Int → Int) : Blk → Blk
  | .nil => .nil
  | .op x r => .op (Proofs.Ytcpjhlkcfohkiaa.ren f x) (r.ren f)
  | .iff a t r => .iff (f a) (t.ren f) (r.ren f)
  | .ife a t e r => .ife (f a) (t.ren f) (e.ren f) (r.ren f)
  | .loop a b t r => .loop (f a) b (t.ren f) (r.ren f)
theorem flat_ren (f : Int → Int) (b : Blk) : (b.ren f).flat = b.flat.map (ren f) := by
  induction b with
  | nil => rfl
  | op x r ih => simp [Blk.ren, Blk.flat, ih]
  | iff a t r iht ihr => simp [Blk.ren, Blk.flat, iht, ihr]; constructor <;> rfl
  | ife a t e r iht ihe ihr => simp [Blk.ren, Blk.flat, iht, ihe, ihr]; exact ⟨rfl, rfl, rfl⟩
  | loop a c t r iht ihr => simp [Blk.ren, Blk.flat, iht, ihr]; constructor <;> rfl
theorem cvOk_ren {f : Int → Int} (hf : Names f) {x : Cd} (hv : cvOk x = true) (h10 : x.op ≤ 10) : cvOk (ren f x) = true := by
  have ha := cvOk_a hv
  have hc := cvOk_c hv
  have hb2 := cvOk_b2 hv
  have ho := op14' hv h10
  obtain ⟨o, a, b, c⟩ := x
  simp only at ha hc hb2 ho
  have fa := hf.bd a ha.1 ha.2
  have fc := hf.bd c hc.1 hc.2
  rcases ho with rfl | rfl | rfl | rfl | rfl | rfl | rfl | rfl | rfl | rfl
  · simp [cvOk, inR] at hv; simp [cvOk, ren, regsN, inR, fa, hv]
  · simp [cvOk, inR] at hv; simp [cvOk, ren, regsN, inR, fa, hv]
  · have fb := hf.bd b (hb2 (by omega)).1 (hb2 (by omega)).2
    simp [cvOk, inR] at hv; simp [cvOk, ren, regsN, inR, fa, fb, hv]
  · have fb := hf.bd b (hb2 (by omega)).1 (hb2 (by omega)).2
    simp [cvOk, inR] at hv; simp [cvOk, ren, regsN, inR, fa, fb, hv]
  · have fb := hf.bd b (hb2 (by omega)).1 (hb2 (by omega)).2
    simp [cvOk, inR] at hv; simp [cvOk, ren, regsN, inR, fa, fb, hv]
  · have fb := hf.bd b (hb2 (by omega)).1 (hb2 (by omega)).2
    simp [cvOk, ren, regsN, inR, fa, fb, fc]
  · have fb := hf.bd b (hb2 (by omega)).1 (hb2 (by omega)).2
    simp [cvOk, ren, regsN, inR, fa, fb, fc]
  · have fb := hf.bd b (hb2 (by omega)).1 (hb2 (by omega)).2
    simp [cvOk, inR] at hv; simp [cvOk, ren, regsN, inR, fa, fb, hv]
  · have fb := hf.bd b (hb2 (by omega)).1 (hb2 (by omega)).2
    simp [cvOk, inR] at hv; simp [cvOk, ren, regsN, inR, fa, fb, hv]
  · simp [cvOk] at hv; simp [cvOk, ren, regsN, hv]
theorem ok_ren {f : Int → Int} (hf : Names f) (b : Blk) : ∀ d, b.ok d → (b.ren f).ok d := by
  induction b with
  | nil => intro d h; exact h
  | op x r ih => intro d ⟨h1, h2, h3, h4⟩; exact ⟨cvOk_ren hf h1 h3, by rw [ren_op]; exact h2, by rw [ren_op]; exact h3, ih d h4⟩
  | iff a t r iht ihr => intro d ⟨h1, h2, h3, h4⟩; exact ⟨hf.bd a h1.1 h1.2, h2, iht _ h3, ihr d h4⟩
  | ife a t e r iht ihe ihr => intro d ⟨h1, h2, h3, h4, h5⟩; exact ⟨hf.bd a h1.1 h1.2, h2, iht _ h3, ihe _ h4, ihr d h5⟩
  | loop a c t r iht ihr => intro d ⟨h1, h2, h3, h4, h5⟩; exact ⟨hf.bd a h1.1 h1.2, h2, h3, iht _ h4, ihr d h5⟩
theorem RS.turns {f : Int → Int} {n : Nat} (n8 : n ≤ 8) {h h' : Nat → LS → LS} (hf : ∀ m s t, m < 2 ^ n → RS f n s t → RS f n (h m s) (h' m t)) {a : Int} (ha : 0 ≤ a ∧ a ≤ 3) : ∀ (b m : Nat) (s t : LS), m < 2 ^ n → RS f n s t → RS f n (turnsOf h a b m s) (turnsOf h' (f a) b m t)
  | 0, _, _, _, _, k => k
  | b + 1, m, s, t, hm, k => by
    simp only [turnsOf]
    rw [k.ones ha hm n8]
    have hlt := onesOf_lt hm n8 a s
    exact RS.turns n8 hf ha b _ _ _ hlt (hf _ _ _ hlt k)
theorem ren_run {f : Int → Int} (hf : Names f) {n : Nat} (n8 : n ≤ 8) (b : Blk) : ∀ (d p m : Nat) (s t : LS), b.ok d → m < 2 ^ n → RS f n s t → RS f n (b.run p m s) ((b.ren f).run p m t) := by
  have hl : ∀ b : Blk, (b.ren f).flat.length = b.flat.length := fun b => by rw [flat_ren, List.length_map]
  induction b with
  | nil => intro d p m s t _ _ k; exact k
  | op x r ih =>
    intro d p m s t ⟨hv, _, h10, hr⟩ hm k
    simp only [Blk.ren, Blk.run]
    split
    · exact k
    · exact ih d _ _ _ _ hr hm ((k.beat p m).execM hf n8 hv h10 hm)
  | iff a t r iht ihr =>
    intro d p m s u ⟨ha, _, ht, hr⟩ hm k
    simp only [Blk.ren, Blk.run, hl]
    split
    · exact k
    · rw [k.ones ha hm n8]
      exact ihr d _ _ _ _ hr hm (iht _ _ _ _ _ ht (onesOf_lt hm n8 a s) (k.beat p m))
  | ife a t e r iht ihe ihr =>
    intro d p m s u ⟨ha, _, ht, he, hr⟩ hm k
    simp only [Blk.ren, Blk.run, hl]
    split
    · exact k
    · rw [k.ones ha hm n8]
      exact ihr d _ _ _ _ hr hm (ihe _ _ _ _ _ he (mdiff_lt hm) (iht _ _ _ _ _ ht (onesOf_lt hm n8 a s) (k.beat p m)))
  | loop a c t r iht ihr =>
    intro d p m s u ⟨ha, _, _, ht, hr⟩ hm k
    simp only [Blk.ren, Blk.run, hl]
    split
    · exact k
    · exact ihr d _ _ _ _ hr hm (RS.turns n8 (h := fun m s => t.run (p + 1) m s) (h' := fun m s => (t.ren f).run (p + 1) m s) (fun m s u hm k => iht _ _ _ _ _ ht hm k) ha _ _ _ _ hm (k.beat p m))

/-! ### Lists of names -/
theorem name4 : ∀ a b c d : Fin 4, nameOk [(a.val : Int), (b.val : Int), (c.val : Int), (d.val : Int)] = true → a ≠ b ∧ a ≠ c ∧ a ≠ d ∧ b ≠ c ∧ b ≠ d ∧ c ≠ d := by decide
theorem names_of {t : List Int} (h : nameOk t = true) : Names (nm t) := by
  obtain ⟨h1, h2⟩ := nameOk_all h
  match t, h1 with
  | [a, b, c, d], _ =>
    have ba := h2 a (by simp)
    have bb := h2 b (by simp)
    have bc := h2 c (by simp)
    have bd := h2 d (by simp)
    have k := name4 ⟨a.toNat, by omega⟩ ⟨b.toNat, by omega⟩ ⟨c.toNat, by omega⟩ ⟨d.toNat, by omega⟩ (by
      simp only [Int.toNat_of_nonneg ba.1, Int.toNat_of_nonneg bb.1, Int.toNat_of_nonneg bc.1, Int.toNat_of_nonneg bd.1]; exact h)
    simp only [ne_eq, Fin.mk.injEq] at k
    have e0 : nm [a, b, c, d] 0 = a := rfl
    have e1 : nm [a, b, c, d] 1 = b := rfl
    have e2 : nm [a, b, c, d] 2 = c := rfl
    have e3 : nm [a, b, c, d] 3 = d := rfl
    refine ⟨fun r r0 r3 => ?_, fun r q r0 r3 q0 q3 e => ?_⟩
    · have : r = 0 ∨ r = 1 ∨ r = 2 ∨ r = 3 := by omega
      rcases this with rfl | rfl | rfl | rfl <;> simp only [e0, e1, e2, e3] <;> assumption
    · have hr : r = 0 ∨ r = 1 ∨ r = 2 ∨ r = 3 := by omega
      have hq : q = 0 ∨ q = 1 ∨ q = 2 ∨ q = 3 := by omega
      rcases hr with rfl | rfl | rfl | rfl <;> rcases hq with rfl | rfl | rfl | rfl <;> simp only [e0, e1, e2, e3] at e <;> omega
theorem names_run {l : List Cd} {f : Int → Int} (hf : Names f) (h : pv l = true) : pv (l.map (ren f)) = true ∧ ∀ {n : Nat} (m : List Int), n ≤ 8 → RS f n (lockS l n m) (lockS (l.map (ren f)) n m) := by
  obtain ⟨h1, h2⟩ := treeOf_spec h
  have e : ((treeOf l).ren f).flat = l.map (ren f) := by rw [flat_ren, h2]
  have ok := ok_ren hf _ _ h1
  have hp : pv (l.map (ren f)) = true := pv_tree.2 ⟨by rw [List.length_map]; exact (pv_iff.1 h).1, _, ok, e⟩
  refine ⟨hp, fun {n} m n8 => ?_⟩
  have ht := treeOf_eq ok e hp
  unfold lockS runT
  rw [ht]
  refine ren_run hf n8 _ 3 _ _ _ _ h1 (by have : 0 < 2 ^ n := Nat.pow_pos (by decide); omega) ⟨by simp [LS.start], by simp [LS.start], fun k hk => ?_, rfl, rfl, rfl, rfl⟩
  have e2 : (LS.start n m).regs.getD k [] = [0, 0, 0, 0] := by simp [LS.start, List.getD_eq_getElem?_getD, hk]
  rw [e2]
  have z : ∀ i, 0 ≤ i → i ≤ 3 → rg [0, 0, 0, 0] i = 0 := fun i i0 i3 => by
    have : i = 0 ∨ i = 1 ∨ i = 2 ∨ i = 3 := by omega
    rcases this with rfl | rfl | rfl | rfl <;> rfl
  exact ⟨rfl, rfl, fun i i0 i3 => by rw [z i i0 i3, z _ (hf.bd i i0 i3).1 (hf.bd i i0 i3).2]⟩
/-- Barriers are split or not under any names. -/
theorem split_ren {f : Int → Int} (l : List Cd) (n : Nat) (bs : List (Nat × Nat)) : splitB (l.map (ren f)) n bs = splitB l n bs := by
  have : ∀ p, opAt (l.map (ren f)) p = opAt l p := fun p => by
    simp only [opAt, List.getElem?_map]
    cases l[p]? with
    | none => rfl
    | some x => exact ren_op f x
  simp only [splitB, this]
end Go.Proofs.Ytcpjhlkcfohkiaa
