/- Part 5 of what the claim needs. -/
import Derived.Test.YtelbfeidpcojmaaGreatSa2
import Derived.Test.YtelbfeidpcojmaaGreatSa3
import Derived.Test.YtelbfeidpcojmaaGreatSa4
import Derived.Deep.RegionHeld3
import Derived.StillTailTactics
import Derived.IntWalk
namespace Go.Proofs.YtelbfeidpcojmaaGreat
open Go.RowKit
set_option linter.unusedVariables false
set_option linter.unusedSimpArgs false

/-- w' is w but for the blocks b and c, and new blocks. -/
structure Off (w w' : World) (b c : Nat) : Prop where
  os : w'.os = w.os
  tape : w'.tape = w.tape
  output : w'.output = w.output
  size : w.heap.size ≤ w'.heap.size
  block : ∀ k, k < w.heap.size → k ≠ b → k ≠ c → w'.heap[k]? = w.heap[k]?
theorem Off.refl (w : World) (b c : Nat) : Off w w b c := ⟨rfl, rfl, rfl, Nat.le_refl _, fun _ _ _ _ => rfl⟩
theorem Off.alloc {w w' : World} {b c : Nat} (h : Off w w' b c) (o : Obj) : Off w (w'.alloc o) b c :=
  ⟨h.os, h.tape, h.output, Nat.le_trans h.size (by simp), fun k hk h1 h2 => (Below.heap_alloc _ _ _ (Nat.lt_of_lt_of_le hk h.size)).trans (h.block k hk h1 h2)⟩
theorem Off.drew {w w' : World} {b c : Nat} (h : Off w w' b c) : Off w w'.drew b c := ⟨h.os, h.tape, h.output, h.size, h.block⟩
theorem Off.set1 {w w' : World} {b c : Nat} (h : Off w w' b c) (i : Nat) (u : Value) : Off w (w'.setCell ⟨b, i, none⟩ u) b c :=
  ⟨h.os, h.tape, h.output, by rw [size_set]; exact h.size, fun k hk h1 h2 => (heap_set_other h1 i u).trans (h.block k hk h1 h2)⟩
theorem Off.set2 {w w' : World} {b c : Nat} (h : Off w w' b c) (i : Nat) (u : Value) : Off w (w'.setCell ⟨c, i, none⟩ u) b c :=
  ⟨h.os, h.tape, h.output, by rw [size_set]; exact h.size, fun k hk h1 h2 => (heap_set_other h2 i u).trans (h.block k hk h1 h2)⟩

theorem sWordAdd_c (a b : Int) (w : World) (ha : 0 ≤ a ∧ a ≤ 255) (hb : 0 ≤ b ∧ b ≤ 255) :
    Calls Tryz.prog 126 #[.int .i64 a, .int .i64 b] w fun e w' => e = .returned (.int .i64 ((a + b) % 256)) ∧ w = w' := by
  have h1 : inR a 0 255 = true := inR_iff.2 ha
  have h2 : inR b 0 255 = true := inR_iff.2 hb
  obtain ⟨a1, a2⟩ := ha
  obtain ⟨b1, b2⟩ := hb
  go_enter Tryz.func126, Tryz.ntmps126
  go_wp2_with (go_at_call 68; refine (l2Word_c _ _).mono ?_; rintro e w' ⟨rfl, rfl⟩)
  go_ret
  exact ⟨rfl, rfl⟩

theorem sWordMul_c (a b : Int) (w : World) (ha : 0 ≤ a ∧ a ≤ 255) (hb : 0 ≤ b ∧ b ≤ 255) :
    Calls Tryz.prog 127 #[.int .i64 a, .int .i64 b] w fun e w' => e = .returned (.int .i64 (a * b % 256)) ∧ w = w' := by
  have h1 : inR a 0 255 = true := inR_iff.2 ha
  have h2 : inR b 0 255 = true := inR_iff.2 hb
  have p1 : 0 ≤ a * b := Int.mul_nonneg ha.1 hb.1
  have p2 : a * b ≤ 65025 := by
    have := Int.mul_le_mul ha.2 hb.2 hb.1 (by omega)
    omega
  obtain ⟨a1, a2⟩ := ha
  obtain ⟨b1, b2⟩ := hb
  go_enter Tryz.func127, Tryz.ntmps127
  go_wp2_with (go_at_call 68; refine (l2Word_c _ _).mono ?_; rintro e w' ⟨rfl, rfl⟩)
  go_ret
  exact ⟨rfl, rfl⟩

theorem sWordLess_c (a b : Int) (w : World) (ha : 0 ≤ a ∧ a ≤ 255) (hb : 0 ≤ b ∧ b ≤ 255) :
    Calls Tryz.prog 128 #[.int .i64 a, .int .i64 b] w fun e w' => e = .returned (.int .i64 (lessI a b)) ∧ w = w' := by
  have h1 : inR a 0 255 = true := inR_iff.2 ha
  have h2 : inR b 0 255 = true := inR_iff.2 hb
  by_cases h : a < b
  all_goals
    go_enter Tryz.func128, Tryz.ntmps128
    go_wp2_with (go_at_call 68; refine (l2Word_c _ _).mono ?_; rintro e w' ⟨rfl, rfl⟩)
    go_ret
    exact ⟨reti (by simp [lessI, h]), rfl⟩

theorem iWordAdd_c (a b : Int) (w : World) (ha : 0 ≤ a ∧ a ≤ 255) (hb : 0 ≤ b ∧ b ≤ 255) :
    Calls Tryz.prog 146 #[.int .i64 a, .int .i64 b] w fun e w' => e = .returned (.int .i64 ((a + b) % 256)) ∧ w = w' := by
  have h1 : inR a 0 255 = true := inR_iff.2 ha
  have h2 : inR b 0 255 = true := inR_iff.2 hb
  obtain ⟨a1, a2⟩ := ha
  obtain ⟨b1, b2⟩ := hb
  go_enter Tryz.func146, Tryz.ntmps146
  go_wp2_with (go_at_call 86; refine (isWord_c _ _).mono ?_; rintro e w' ⟨rfl, rfl⟩)
  go_ret
  exact ⟨rfl, rfl⟩

theorem iWordMul_c (a b : Int) (w : World) (ha : 0 ≤ a ∧ a ≤ 255) (hb : 0 ≤ b ∧ b ≤ 255) :
    Calls Tryz.prog 147 #[.int .i64 a, .int .i64 b] w fun e w' => e = .returned (.int .i64 (a * b % 256)) ∧ w = w' := by
  have h1 : inR a 0 255 = true := inR_iff.2 ha
  have h2 : inR b 0 255 = true := inR_iff.2 hb
  have p1 : 0 ≤ a * b := Int.mul_nonneg ha.1 hb.1
  have p2 : a * b ≤ 65025 := by
    have := Int.mul_le_mul ha.2 hb.2 hb.1 (by omega)
    omega
  obtain ⟨a1, a2⟩ := ha
  obtain ⟨b1, b2⟩ := hb
  go_enter Tryz.func147, Tryz.ntmps147
  go_wp2_with (go_at_call 86; refine (isWord_c _ _).mono ?_; rintro e w' ⟨rfl, rfl⟩)
  go_ret
  exact ⟨rfl, rfl⟩

theorem iWordLess_c (a b : Int) (w : World) (ha : 0 ≤ a ∧ a ≤ 255) (hb : 0 ≤ b ∧ b ≤ 255) :
    Calls Tryz.prog 148 #[.int .i64 a, .int .i64 b] w fun e w' => e = .returned (.int .i64 (lessI a b)) ∧ w = w' := by
  have h1 : inR a 0 255 = true := inR_iff.2 ha
  have h2 : inR b 0 255 = true := inR_iff.2 hb
  by_cases h : a < b
  all_goals
    go_enter Tryz.func148, Tryz.ntmps148
    go_wp2_with (go_at_call 86; refine (isWord_c _ _).mono ?_; rintro e w' ⟨rfl, rfl⟩)
    go_ret
    exact ⟨reti (by simp [lessI, h]), rfl⟩

theorem rg_get {r : List Int} (hr : r.length = 4) {a : Nat} (ha : a ≤ 3) : r[a]? = some (rg r (a : Int)) := by
  have : a < r.length := by omega
  simp [rg, List.getD_eq_getElem?_getD, List.getElem?_eq_getElem this]

theorem calls_flip {f : FuncId} {args : Array Value} {w : World} {v : Value} (h : Calls Tryz.prog f args w fun e w' => e = .returned v ∧ w = w') : Calls Tryz.prog f args w fun e w' => e = .returned v ∧ w' = w :=
  h.mono fun _ _ ⟨h1, h2⟩ => ⟨h1, h2.symm⟩

/-- What one instruction leaves. -/
def Simp1 (w : World) (base rb rc mb mn mc : Nat) (x : Cd) (id : Nat) (r m : List Int) (w' : World) : Prop :=
  OI w' base (some ⟨rb, 0, none⟩) 4 rc (simp1 x id r m).1 ∧ OI w' base (some ⟨mb, 0, none⟩) mn mc (simp1 x id r m).2 ∧ Off w w' rb mb

theorem OR.off {w w' : World} {base e size n c b c' : Nat} {A : Option Addr} {xs : List Value} (h : OR w base e size A n c xs) (ho : Off w w' b c') (h1 : Value.ownBlock (.slice A n c) ≠ some b) (h2 : Value.ownBlock (.slice A n c) ≠ some c') : OR w' base e size A n c xs := by
  refine ⟨h.1, ?_⟩
  rcases h.2 with hn | ⟨g, cap, cur, hv, hbg, hg, r⟩
  · exact .inl hn
  · rw [hv] at h1 h2
    exact .inr ⟨g, cap, cur, hv, hbg, by rw [ho.block g (lt_of_block hg) (fun e => h1 (by rw [e]; rfl)) (fun e => h2 (by rw [e]; rfl))]; exact hg, r⟩
theorem Off.below {w w' : World} {b c B : Nat} (h : Off w w' b c) (hb : B ≤ b) (hc : B ≤ c) (hB : B ≤ w.heap.size) : Below B w w' :=
  ⟨h.os, h.tape, h.output, h.size, fun k hk => h.block k (by omega) (by omega) (by omega)⟩

theorem bit_tm (m k : Nat) : ((((m : Int) / 2 ^ k).tmod 2) == 1) = m.testBit k := by
  have e : ((m : Int) / 2 ^ k) = ((m >>> k : Nat) : Int) := by
    rw [Nat.shiftRight_eq_div_pow]; simp
  rw [e, Int.tmod_eq_emod_of_nonneg (Int.natCast_nonneg _)]
  have h2 : m.testBit k = decide ((m >>> k) % 2 = 1) := by
    have : (m >>> k).testBit 0 = m.testBit k := by rw [Nat.testBit_shiftRight]; simp
    rw [← this, Nat.testBit_zero]
  rw [h2]
  generalize m >>> k = q
  cases h : decide (q % 2 = 1) with
  | true => rw [beq_iff_eq]; have := of_decide_eq_true h; omega
  | false => rw [beq_eq_false_iff_ne]; have := of_decide_eq_false h; omega

theorem OR.byType {w w' : World} {base e size n c : Nat} {A : Option Addr} {xs : List Value} (h : OR w base e size A n c xs) (hk : ∀ (g : Nat) (cs : Array Value), w.heap[g]? = some (.cells cs e (0, 0)) → w'.heap[g]? = some (.cells cs e (0, 0))) : OR w' base e size A n c xs := by
  rcases h.2 with ⟨hv, hn⟩ | ⟨g, cap, cur, hv, hb, hg, hrest⟩
  · exact ⟨h.1, .inl ⟨hv, hn⟩⟩
  · exact ⟨h.1, .inr ⟨g, cap, cur, hv, hb, hk g cur hg, hrest⟩⟩
/-- Behind an append to a row, a block of another type reads as before. -/
theorem grown_cell {wb w2 : World} {base e size n c : Nat} {A : Option Addr} {xs : List Value} (hT : OR wb base e size A n c xs) (hg : wb.grownBy w2 (Value.ownBlock (.slice A n c))) {b : Nat} {cs : Array Value} {t : TypeId} (hb : wb.heap[b]? = some (.cells cs t (0, 0))) (hne : e ≠ t) (i : Nat) :
    w2.cell? ⟨b, i, none⟩ = wb.cell? ⟨b, i, none⟩ := by
  have h2 : w2.heap[b]? = some (.cells cs t (0, 0)) := (hg.block b (lt_of_block hb) (fun e' => own_ne hT hb hne e'.symm)).trans hb
  rw [cell_of_heap h2, cell_of_heap hb]
theorem grown_free {wb w2 : World} {base e size n c : Nat} {A : Option Addr} {xs : List Value} (hT : OR wb base e size A n c xs) (hg : wb.grownBy w2 (Value.ownBlock (.slice A n c))) {b : Nat} {cs : Array Value} {t : TypeId} (hb : wb.heap[b]? = some (.cells cs t (0, 0))) (hne : e ≠ t) (i : Nat) :
    w2.frozen? ⟨b, i, none⟩ = false := by
  have h2 : w2.heap[b]? = some (.cells cs t (0, 0)) := (hg.block b (lt_of_block hb) (fun e' => own_ne hT hb hne e'.symm)).trans hb
  exact free_of_heap h2 i

set_option maxRecDepth 100000 in
set_option maxHeartbeats 16000000 in
theorem compute_c (x : Cd) (id : Nat) (r m : List Int) (base rb rc mb mc mn : Nat) (w : World) (hv : cvOk x = true) (h10 : x.op ≤ 10) (hid : id ≤ 7)
    (hR : OI w base (some ⟨rb, 0, none⟩) 4 rc r) (hM : OI w base (some ⟨mb, 0, none⟩) mn mc m) (hne : rb ≠ mb) (hr : wordsOk r) (hm : wordsOk m) (hml : 1 ≤ mn ∧ mn ≤ 32) :
    Calls Tryz.prog 124 #[x.val, .int .i64 id, .slice (some ⟨rb, 0, none⟩) 4 rc, .slice (some ⟨mb, 0, none⟩) mn mc] w fun e w' => e = .returned (.tuple #[]) ∧ Simp1 w base rb rc mb mn mc x id r m w' := by
  have hrl : r.length = 4 := OI.len hR
  have hmn : m.length = mn := OI.len hM
  obtain ⟨hRb0, hRb1⟩ := OR.block hR rb rfl
  obtain ⟨hMb0, hMb1⟩ := OR.block hM mb rfl
  obtain ⟨hm1, hm2⟩ := hml
  have ha := cvOk_a hv
  have hb := cvOk_b hv
  have hc := cvOk_c hv
  have hb2 := cvOk_b2 hv
  have ho := op14' hv h10
  obtain ⟨a, hae⟩ := Int.eq_ofNat_of_zero_le ha.1
  obtain ⟨b, hbe⟩ := Int.eq_ofNat_of_zero_le hb.1
  obtain ⟨c, hce⟩ := Int.eq_ofNat_of_zero_le hc.1
  obtain ⟨o, xa, xb, xc⟩ := x
  simp only at ha hb hc hb2 hae hbe hce ho h10
  subst hae hbe hce
  have la : a ≤ 3 := by omega
  have lc : c ≤ 3 := by omega
  have a4 : (a : Int) < 4 := by omega
  have c4 : (c : Int) < 4 := by omega
  have ca := (OI.at0 hR).1 a _ (rg_get hrl la)
  have cc := (OI.at0 hR).1 c _ (rg_get hrl lc)
  have wa := rg_word hr a
  have wc := rg_word hr c
  have wb := rg_word hr b
  have fa := (OI.at0 hR).2.1 a
  have HR := Lib.hid hR
  have HM := Lib.hid hM
  have HRL := Lib.hid hrl
  have HMN := Lib.hid hmn
  have hob1 : Value.ownBlock (.slice (some ⟨mb, 0, none⟩) mn mc) ≠ some rb := fun e => hne (by injection e with e; exact e.symm)
  have hob2 : Value.ownBlock (.slice (some ⟨rb, 0, none⟩) 4 rc) ≠ some mb := fun e => hne (by injection e with e)
  have HO1 := Lib.hid hob1
  have HO2 := Lib.hid hob2
  have HX0 := Lib.hid (Off.refl w rb mb)
  clear hR hM hr hrl hmn hv hob1 hob2
  unfold Cd.val
  rcases ho with rfl | rfl | rfl | rfl | rfl | rfl | rfl | rfl | rfl | rfl
  · clear hb2 hm
    go_enter Tryz.func124, Tryz.ntmps124
    go_wp2
    go_end0
    exact ⟨rfl, OR.alloc ((OI.at0 HR.out).2.2 a b) _, OR.alloc (OR.set_other HM.out (p := ⟨rb, a, none⟩) HO1.out _) _, (HX0.out.set1 _ _).alloc _⟩
  · clear hb2 hm
    go_enter Tryz.func124, Tryz.ntmps124
    go_wp2
    go_end0
    exact ⟨rfl, OR.alloc ((OI.at0 HR.out).2.2 a id) _, OR.alloc (OR.set_other HM.out (p := ⟨rb, a, none⟩) HO1.out _) _, (HX0.out.set1 _ _).alloc _⟩
  · -- op 3
    have lb : b ≤ 3 := by have := hb2 (by omega); omega
    have b4 : (b : Int) < 4 := by omega
    have cb := (OI.at0 HR.out).1 b _ (rg_get HRL.out lb)
    clear hb2 hm
    go_enter Tryz.func124, Tryz.ntmps124
    go_wp2_with fail
    obtain ⟨d0, d1, d2, d3⟩ := cd_cells w ⟨3, a, b, c⟩ 76
    simp only at d0 d1 d2 d3
    have hX := Ext.alloc w (.cells #[.int .i64 3, .int .i64 a, .int .i64 b, .int .i64 c] 76)
    have hO := HX0.out.alloc (.cells #[.int .i64 3, .int .i64 a, .int .i64 b, .int .i64 c] 76)
    replace ca := hX.cell ca
    replace cb := hX.cell cb
    replace cc := hX.cell cc
    have HR2 := Lib.hid (OR.ext HR.out hX)
    have HM2 := Lib.hid (OR.ext HM.out hX)
    replace fa := (OI.at0 HR2.out).2.1 a
    generalize w.alloc (.cells #[.int .i64 3, .int .i64 a, .int .i64 b, .int .i64 c] 76) = W at *
    have HO := Lib.hid hO
    clear hX hO
    go_still_tail 15, (by kernel_rfl)
    still_call (calls_flip (iWordAdd_c _ _ _ wa wb))
    repeat still_step
    try refine wpStill_nil ?_
    go_wp2
    go_end0
    exact ⟨rfl, OR.drew ((OI.at0 HR2.out).2.2 a ((rg r a + rg r b) % 256)), OR.drew (OR.set_other HM2.out (p := ⟨rb, a, none⟩) HO1.out _), (HO.out.set1 _ _).drew⟩
  · -- op 4
    have lb : b ≤ 3 := by have := hb2 (by omega); omega
    have b4 : (b : Int) < 4 := by omega
    have cb := (OI.at0 HR.out).1 b _ (rg_get HRL.out lb)
    clear hb2 hm
    go_enter Tryz.func124, Tryz.ntmps124
    go_wp2_with fail
    obtain ⟨d0, d1, d2, d3⟩ := cd_cells w ⟨4, a, b, c⟩ 76
    simp only at d0 d1 d2 d3
    have hX := Ext.alloc w (.cells #[.int .i64 4, .int .i64 a, .int .i64 b, .int .i64 c] 76)
    have hO := HX0.out.alloc (.cells #[.int .i64 4, .int .i64 a, .int .i64 b, .int .i64 c] 76)
    replace ca := hX.cell ca
    replace cb := hX.cell cb
    replace cc := hX.cell cc
    have HR2 := Lib.hid (OR.ext HR.out hX)
    have HM2 := Lib.hid (OR.ext HM.out hX)
    replace fa := (OI.at0 HR2.out).2.1 a
    generalize w.alloc (.cells #[.int .i64 4, .int .i64 a, .int .i64 b, .int .i64 c] 76) = W at *
    have HO := Lib.hid hO
    clear hX hO
    go_still_tail 15, (by kernel_rfl)
    still_call (calls_flip (iWordMul_c _ _ _ wa wb))
    repeat still_step
    try refine wpStill_nil ?_
    go_wp2
    go_end0
    exact ⟨rfl, OR.drew ((OI.at0 HR2.out).2.2 a (rg r a * rg r b % 256)), OR.drew (OR.set_other HM2.out (p := ⟨rb, a, none⟩) HO1.out _), (HO.out.set1 _ _).drew⟩
  · -- op 5
    have lb : b ≤ 3 := by have := hb2 (by omega); omega
    have b4 : (b : Int) < 4 := by omega
    have cb := (OI.at0 HR.out).1 b _ (rg_get HRL.out lb)
    clear hb2 hm
    go_enter Tryz.func124, Tryz.ntmps124
    go_wp2_with fail
    obtain ⟨d0, d1, d2, d3⟩ := cd_cells w ⟨5, a, b, c⟩ 76
    simp only at d0 d1 d2 d3
    have hX := Ext.alloc w (.cells #[.int .i64 5, .int .i64 a, .int .i64 b, .int .i64 c] 76)
    have hO := HX0.out.alloc (.cells #[.int .i64 5, .int .i64 a, .int .i64 b, .int .i64 c] 76)
    replace ca := hX.cell ca
    replace cb := hX.cell cb
    replace cc := hX.cell cc
    have HR2 := Lib.hid (OR.ext HR.out hX)
    have HM2 := Lib.hid (OR.ext HM.out hX)
    replace fa := (OI.at0 HR2.out).2.1 a
    generalize w.alloc (.cells #[.int .i64 5, .int .i64 a, .int .i64 b, .int .i64 c] 76) = W at *
    have HO := Lib.hid hO
    clear hX hO
    go_still_tail 9, (by kernel_rfl)
    go_wp2
    go_end0
    exact ⟨rfl, OR.drew ((OI.at0 HR2.out).2.2 a (rg r b)), OR.drew (OR.set_other HM2.out (p := ⟨rb, a, none⟩) HO1.out _), (HO.out.set1 _ _).drew⟩
  · -- op 6
    have lb : b ≤ 3 := by have := hb2 (by omega); omega
    have b4 : (b : Int) < 4 := by omega
    have cb := (OI.at0 HR.out).1 b _ (rg_get HRL.out lb)
    clear hb2 hm
    go_enter Tryz.func124, Tryz.ntmps124
    go_wp2_with fail
    obtain ⟨d0, d1, d2, d3⟩ := cd_cells w ⟨6, a, b, c⟩ 76
    simp only at d0 d1 d2 d3
    have hX := Ext.alloc w (.cells #[.int .i64 6, .int .i64 a, .int .i64 b, .int .i64 c] 76)
    have hO := HX0.out.alloc (.cells #[.int .i64 6, .int .i64 a, .int .i64 b, .int .i64 c] 76)
    replace ca := hX.cell ca
    replace cb := hX.cell cb
    replace cc := hX.cell cc
    have HR2 := Lib.hid (OR.ext HR.out hX)
    have HM2 := Lib.hid (OR.ext HM.out hX)
    replace fa := (OI.at0 HR2.out).2.1 a
    generalize w.alloc (.cells #[.int .i64 6, .int .i64 a, .int .i64 b, .int .i64 c] 76) = W at *
    have HO := Lib.hid hO
    clear hX hO
    go_still_tail 15, (by kernel_rfl)
    still_call (calls_flip (iWordLess_c _ _ _ wb wc))
    repeat still_step
    try refine wpStill_nil ?_
    go_wp2
    go_end0
    exact ⟨rfl, OR.drew ((OI.at0 HR2.out).2.2 a (lessI (rg r b) (rg r c))), OR.drew (OR.set_other HM2.out (p := ⟨rb, a, none⟩) HO1.out _), (HO.out.set1 _ _).drew⟩
  · -- op 7
    have lb : b ≤ 3 := by have := hb2 (by omega); omega
    have b4 : (b : Int) < 4 := by omega
    have cb := (OI.at0 HR.out).1 b _ (rg_get HRL.out lb)
    clear hb2 hm
    cases hz : rg r c == 0 with
    | true =>
      have hn : (rg r c != 0) = false := by simp [bne, hz]
      have HZ := Lib.hid hz
      clear hz
      go_enter Tryz.func124, Tryz.ntmps124
      go_wp2
      go_end0
      have e : simp1 ⟨7, a, b, c⟩ id r m = (r, m) := by simp [simp1, HZ.out]
      refine ⟨rfl, ?_⟩
      unfold Simp1
      rw [e]
      exact ⟨OR.alloc HR.out _, OR.alloc HM.out _, HX0.out.alloc _⟩
    | false =>
      have hn : (rg r c != 0) = true := by simp [bne, hz]
      have HZ := Lib.hid hz
      clear hz
      go_enter Tryz.func124, Tryz.ntmps124
      go_wp2_with fail
      obtain ⟨d0, d1, d2, d3⟩ := cd_cells w ⟨7, a, b, c⟩ 76
      simp only at d0 d1 d2 d3
      have hX := Ext.alloc w (.cells #[.int .i64 7, .int .i64 a, .int .i64 b, .int .i64 c] 76)
      have hO := HX0.out.alloc (.cells #[.int .i64 7, .int .i64 a, .int .i64 b, .int .i64 c] 76)
      replace ca := hX.cell ca
      replace cb := hX.cell cb
      replace cc := hX.cell cc
      have HR2 := Lib.hid (OR.ext HR.out hX)
      have HM2 := Lib.hid (OR.ext HM.out hX)
      replace fa := (OI.at0 HR2.out).2.1 a
      generalize w.alloc (.cells #[.int .i64 7, .int .i64 a, .int .i64 b, .int .i64 c] 76) = W at *
      have HO := Lib.hid hO
      clear hX hO
      go_still_tail 9, (by kernel_rfl)
      go_wp2
      go_end0
      have e : simp1 ⟨7, a, b, c⟩ id r m = (r.set a (rg r b), m) := by simp [simp1, HZ.out]
      refine ⟨rfl, ?_⟩
      unfold Simp1
      rw [e]
      exact ⟨OR.drew ((OI.at0 HR2.out).2.2 a (rg r b)), OR.drew (OR.set_other HM2.out (p := ⟨rb, a, none⟩) HO1.out _), (HO.out.set1 _ _).drew⟩
  · -- op 8
    have lb : b ≤ 3 := by have := hb2 (by omega); omega
    have b4 : (b : Int) < 4 := by omega
    have cb := (OI.at0 HR.out).1 b _ (rg_get HRL.out lb)
    clear hb2
    obtain ⟨k, hk0⟩ := Int.eq_ofNat_of_zero_le wb.1
    have hkm : k % mn < mn := Nat.mod_lt _ (by omega)
    have hmod : Int.tmod (rg r b) (mn : Int) = ((k % mn : Nat) : Int) := by rw [hk0, Int.tmod_eq_emod_of_nonneg (by omega)]; omega
    have hwr : IntKind.i64.wrap (Int.tmod (rg r b) (mn : Int)) = ((k % mn : Nat) : Int) := by rw [hmod]; exact IntWalk.i64_in _ (by omega)
    have hidx : (rg r b % (m.length : Int)).toNat = k % mn := by rw [HMN.out, hk0]; omega
    have HIX := Lib.hid hidx
    have hmg : m[k % mn]? = some (m.getD (k % mn) 0) := by rw [List.getD_eq_getElem?_getD, List.getElem?_eq_getElem (by rw [HMN.out]; exact hkm)]; rfl
    have cm := (OI.at0 HM.out).1 _ _ hmg
    have fm := (OI.at0 HM.out).2.1 (k % mn)
    have hmnz : ¬ mn = 0 := by omega
    have hkI : ((k % mn : Nat) : Int) < (mn : Int) := by omega
    have HMG := Lib.hid hmg
    clear hm hmg hidx hk0
    generalize hkk : k % mn = kk at *
    clear hkk
    go_enter Tryz.func124, Tryz.ntmps124
    go_wp2_with fail
    obtain ⟨d0, d1, d2, d3⟩ := cd_cells w ⟨8, a, b, c⟩ 76
    simp only at d0 d1 d2 d3
    have hX := Ext.alloc w (.cells #[.int .i64 8, .int .i64 a, .int .i64 b, .int .i64 c] 76)
    have hO := HX0.out.alloc (.cells #[.int .i64 8, .int .i64 a, .int .i64 b, .int .i64 c] 76)
    replace ca := hX.cell ca
    replace cb := hX.cell cb
    replace cc := hX.cell cc
    have HR2 := Lib.hid (OR.ext HR.out hX)
    have HM2 := Lib.hid (OR.ext HM.out hX)
    replace fa := (OI.at0 HR2.out).2.1 a
    replace cm := hX.cell cm
    replace fm := (OI.at0 HM2.out).2.1 kk
    generalize w.alloc (.cells #[.int .i64 8, .int .i64 a, .int .i64 b, .int .i64 c] 76) = W at *
    have HO := Lib.hid hO
    clear hX hO
    go_still_tail 15, (by kernel_rfl)
    clear hmod hwr hmnz
    go_wp2
    go_end0
    have e : simp1 ⟨8, a, b, c⟩ id r m = (r.set a (m.getD kk 0), m) := by simp only [simp1]; rw [HIX.out]; rfl
    refine ⟨rfl, ?_⟩
    unfold Simp1
    rw [e]
    exact ⟨OR.drew ((OI.at0 HR2.out).2.2 a (m.getD kk 0)), OR.drew (OR.set_other HM2.out (p := ⟨rb, a, none⟩) HO1.out _), (HO.out.set1 _ _).drew⟩
  · -- op 9
    have lb : b ≤ 3 := by have := hb2 (by omega); omega
    have b4 : (b : Int) < 4 := by omega
    have cb := (OI.at0 HR.out).1 b _ (rg_get HRL.out lb)
    clear hb2
    obtain ⟨k, hk0⟩ := Int.eq_ofNat_of_zero_le wb.1
    have hkm : k % mn < mn := Nat.mod_lt _ (by omega)
    have hmod : Int.tmod (rg r b) (mn : Int) = ((k % mn : Nat) : Int) := by rw [hk0, Int.tmod_eq_emod_of_nonneg (by omega)]; omega
    have hwr : IntKind.i64.wrap (Int.tmod (rg r b) (mn : Int)) = ((k % mn : Nat) : Int) := by rw [hmod]; exact IntWalk.i64_in _ (by omega)
    have hidx : (rg r b % (m.length : Int)).toNat = k % mn := by rw [HMN.out, hk0]; omega
    have HIX := Lib.hid hidx
    have hmg : m[k % mn]? = some (m.getD (k % mn) 0) := by rw [List.getD_eq_getElem?_getD, List.getElem?_eq_getElem (by rw [HMN.out]; exact hkm)]; rfl
    have cm := (OI.at0 HM.out).1 _ _ hmg
    have fm := (OI.at0 HM.out).2.1 (k % mn)
    have hmnz : ¬ mn = 0 := by omega
    have hkI : ((k % mn : Nat) : Int) < (mn : Int) := by omega
    have HMG := Lib.hid hmg
    clear hm hmg hidx hk0
    generalize hkk : k % mn = kk at *
    clear hkk
    go_enter Tryz.func124, Tryz.ntmps124
    go_wp2_with fail
    obtain ⟨d0, d1, d2, d3⟩ := cd_cells w ⟨9, a, b, c⟩ 76
    simp only at d0 d1 d2 d3
    have hX := Ext.alloc w (.cells #[.int .i64 9, .int .i64 a, .int .i64 b, .int .i64 c] 76)
    have hO := HX0.out.alloc (.cells #[.int .i64 9, .int .i64 a, .int .i64 b, .int .i64 c] 76)
    replace ca := hX.cell ca
    replace cb := hX.cell cb
    replace cc := hX.cell cc
    have HR2 := Lib.hid (OR.ext HR.out hX)
    have HM2 := Lib.hid (OR.ext HM.out hX)
    replace fa := (OI.at0 HR2.out).2.1 a
    replace cm := hX.cell cm
    replace fm := (OI.at0 HM2.out).2.1 kk
    generalize w.alloc (.cells #[.int .i64 9, .int .i64 a, .int .i64 b, .int .i64 c] 76) = W at *
    have HO := Lib.hid hO
    clear hX hO
    go_still_tail 15, (by kernel_rfl)
    clear hmod hwr hmnz
    go_wp2
    go_end0
    have e : simp1 ⟨9, a, b, c⟩ id r m = (r, m.set kk (rg r a)) := by simp only [simp1]; rw [HIX.out]; rfl
    refine ⟨rfl, ?_⟩
    unfold Simp1
    rw [e]
    exact ⟨OR.drew (OR.set_other HR2.out (p := ⟨mb, kk, none⟩) HO2.out _), OR.drew ((OI.at0 HM2.out).2.2 kk (rg r a)), (HO.out.set2 _ _).drew⟩
  · clear hb2 hm
    go_enter Tryz.func124, Tryz.ntmps124
    go_wp2
    go_end0
    exact ⟨rfl, OR.alloc HR.out _, OR.alloc HM.out _, HX0.out.alloc _⟩


/-- Where the parts of a crowd lie. -/
structure Gm where
  lb : Nat
  lc : Nat
  R : Nat → Nat
  RC : Nat → Nat
  T : Nat → Option Nat
  TC : Nat → Nat
  mb : Nat
  mc : Nat
def adr (t : Option Nat) : Option Addr := t.map fun b => ⟨b, 0, none⟩
theorem own_adr (t : Option Nat) (n c : Nat) : Value.ownBlock (.slice (adr t) n c) = t := by cases t <;> rfl
def laneCell (z : Gm) (k : Nat) (s : Ln) : Nat → Value
  | 0 => .slice (some ⟨z.R k, 0, none⟩) 4 (z.RC k)
  | 1 => .int .i64 s.pos
  | 2 => .slice (adr (z.T k)) s.turns.length (z.TC k)
  | _ => .bool s.waits
def lanesV (z : Gm) (n : Nat) (f : Nat → Ln) : List Value := (List.range (n * 4)).map fun i => laneCell z (i / 4) (f (i / 4)) (i % 4)
theorem lanesV_len (z : Gm) (n : Nat) (f : Nat → Ln) : (lanesV z n f).length = n * 4 := by simp [lanesV]
theorem lanesV_get (z : Gm) (n : Nat) (f : Nat → Ln) {k j : Nat} (hk : k < n) (hj : j < 4) : (lanesV z n f)[k * 4 + j]? = some (laneCell z k (f k) j) := by
  have h1 : (k * 4 + j) / 4 = k := by omega
  have h2 : (k * 4 + j) % 4 = j := by omega
  have h3 : k * 4 + j < n * 4 := by omega
  simp [lanesV, h1, h2, h3]
/-- One cell of one lane is another. -/
theorem lanesV_set {z z' : Gm} {n : Nat} {f f' : Nat → Ln} {k j : Nat} {v : Value} (hk : k < n) (hj : j < 4) (hv : laneCell z' k (f' k) j = v) (hsame : ∀ i, i < 4 → i ≠ j → laneCell z' k (f' k) i = laneCell z k (f k) i) (hoth : ∀ i, i < n → i ≠ k → ∀ q, q < 4 → laneCell z' i (f' i) q = laneCell z i (f i) q) :
    (lanesV z n f).set (k * 4 + j) v = lanesV z' n f' := by
  apply List.ext_getElem?
  intro i
  by_cases hi : i < n * 4
  · have h1 : i / 4 < n := by omega
    have h2 : i % 4 < 4 := Nat.mod_lt _ (by decide)
    have h3 : i / 4 * 4 + i % 4 = i := by omega
    have g1 := lanesV_get z n f h1 h2
    have g2 := lanesV_get z' n f' h1 h2
    rw [h3] at g1 g2
    rw [g2, List.getElem?_set]
    by_cases e : k * 4 + j = i
    · rw [if_pos e, if_pos (by rw [lanesV_len]; omega)]
      have e1 : i / 4 = k := by omega
      have e2 : i % 4 = j := by omega
      rw [e1, e2, hv]
    · rw [if_neg e, g1]
      by_cases e1 : i / 4 = k
      · rw [e1, hsame _ h2 (by intro e2; omega)]
      · rw [hoth _ h1 e1 _ h2]
  · rw [List.getElem?_eq_none (by rw [List.length_set, lanesV_len]; omega), List.getElem?_eq_none (by rw [lanesV_len]; omega)]
theorem lanesV_congr {z z' : Gm} {n : Nat} {f f' : Nat → Ln} (h : ∀ i, i < n → ∀ q, q < 4 → laneCell z' i (f' i) q = laneCell z i (f i) q) : lanesV z' n f' = lanesV z n f := by
  apply List.ext_getElem?
  intro i
  by_cases hi : i < n * 4
  · have h1 : i / 4 < n := by omega
    have h2 : i % 4 < 4 := Nat.mod_lt _ (by decide)
    have h3 : i / 4 * 4 + i % 4 = i := by omega
    have g1 := lanesV_get z n f h1 h2
    have g2 := lanesV_get z' n f' h1 h2
    rw [h3] at g1 g2
    rw [g1, g2, h _ h1 _ h2]
  · rw [List.getElem?_eq_none (by rw [lanesV_len]; omega), List.getElem?_eq_none (by rw [lanesV_len]; omega)]
theorem lanesV_snoc (z : Gm) (n : Nat) (f : Nat → Ln) : lanesV z (n + 1) f = lanesV z n f ++ [laneCell z n (f n) 0, laneCell z n (f n) 1, laneCell z n (f n) 2, laneCell z n (f n) 3] := by
  apply List.ext_getElem?
  intro i
  by_cases hi : i < n * 4
  · rw [List.getElem?_append_left (by rw [lanesV_len]; exact hi)]
    have h1 : i / 4 < n := by omega
    have h2 : i % 4 < 4 := Nat.mod_lt _ (by decide)
    have h3 : i / 4 * 4 + i % 4 = i := by omega
    have g1 := lanesV_get z n f h1 h2
    have g2 := lanesV_get z (n + 1) f (show i / 4 < n + 1 by omega) h2
    rw [h3] at g1 g2
    rw [g1, g2]
  · rw [List.getElem?_append_right (by rw [lanesV_len]; omega), lanesV_len]
    by_cases h4 : i < (n + 1) * 4
    · have g2 := lanesV_get z (n + 1) f (show n < n + 1 by omega) (show i - n * 4 < 4 by omega)
      rw [show n * 4 + (i - n * 4) = i by omega] at g2
      rw [g2]
      have : i - n * 4 = 0 ∨ i - n * 4 = 1 ∨ i - n * 4 = 2 ∨ i - n * 4 = 3 := by omega
      rcases this with e | e | e | e <;> rw [e] <;> rfl
    · rw [List.getElem?_eq_none (by rw [lanesV_len]; omega), List.getElem?_eq_none (by simp; omega)]

/-- A crowd of n lanes in memory. -/
structure CM (O : Nat → Prop) (w : World) (B n : Nat) (z : Gm) (c : Cw) : Prop where
  row : OR w B 84 4 (some ⟨z.lb, 0, none⟩) n z.lc (lanesV z n c.lane)
  regs : ∀ k, k < n → OI w B (some ⟨z.R k, 0, none⟩) 4 (z.RC k) (c.lane k).regs
  turns : ∀ k, k < n → OI w B (adr (z.T k)) (c.lane k).turns.length (z.TC k) (c.lane k).turns
  mem : OI w B (some ⟨z.mb, 0, none⟩) c.mem.length z.mc c.mem
  rm : ∀ k, k < n → z.R k ≠ z.mb
  rr : ∀ j k, j < n → k < n → z.R j = z.R k → j = k
  tm : ∀ k, k < n → z.T k ≠ some z.mb
  tr : ∀ j k, j < n → k < n → z.T j ≠ some (z.R k)
  tt : ∀ j k q, j < n → k < n → z.T j = some q → z.T k = some q → j = k
  olb : O z.lb
  omb : O z.mb
  oR : ∀ k, k < n → O (z.R k)
  oT : ∀ k q, k < n → z.T k = some q → O q
  of : ∀ q, w.heap.size ≤ q → O q

section
variable {O : Nat → Prop} {w w' : World} {B n : Nat} {z : Gm} {c : Cw}
theorem CM.ext (h : CM O w B n z c) (hx : Ext w w') : CM O w' B n z c :=
  ⟨h.row.ext hx, fun k hk => OR.ext (h.regs k hk) hx, fun k hk => OR.ext (h.turns k hk) hx, OR.ext h.mem hx, h.rm, h.rr, h.tm, h.tr, h.tt, h.olb, h.omb, h.oR, h.oT, fun q hq => h.of q (Nat.le_trans hx.size hq)⟩
theorem CM.lt (h : CM O w B n z c) : B ≤ z.lb ∧ z.lb < w.heap.size := OR.base_le h.row
theorem CM.heap (h : CM O w B n z c) : ∃ cur, w.heap[z.lb]? = some (.cells cur 84 (0, 0)) := OR.heap_ h.row
theorem CM.cells (h : CM O w B n z c) {k : Nat} (hk : k < n) : w.cell? ⟨z.lb, k * 4, none⟩ = some (.slice (some ⟨z.R k, 0, none⟩) 4 (z.RC k)) ∧ w.cell? ⟨z.lb, k * 4 + 1, none⟩ = some (.int .i64 (c.lane k).pos) ∧
    w.cell? ⟨z.lb, k * 4 + 2, none⟩ = some (.slice (adr (z.T k)) (c.lane k).turns.length (z.TC k)) ∧ w.cell? ⟨z.lb, k * 4 + 3, none⟩ = some (.bool (c.lane k).waits) := by
  have h0 := (OR.at0 h.row).1
  exact ⟨h0 _ _ (lanesV_get z n c.lane hk (by decide : 0 < 4)), h0 _ _ (lanesV_get z n c.lane hk (by decide : 1 < 4)), h0 _ _ (lanesV_get z n c.lane hk (by decide : 2 < 4)), h0 _ _ (lanesV_get z n c.lane hk (by decide : 3 < 4))⟩
theorem CM.free (h : CM O w B n z c) (j : Nat) : w.frozen? ⟨z.lb, j, none⟩ = false := by
  obtain ⟨cur, hc⟩ := h.heap
  exact free_of_heap hc j
theorem CM.reg (h : CM O w B n z c) {k : Nat} (hk : k < n) {a : Nat} (ha : a ≤ 3) (h4 : (c.lane k).regs.length = 4) : w.cell? ⟨z.R k, a, none⟩ = some (.int .i64 (rg (c.lane k).regs a)) := (OI.at0 (h.regs k hk)).1 a _ (rg_get h4 ha)

/-- Nothing below B is turned, and no block but that of the lanes and those of numbers. -/
structure StC (O : Nat → Prop) (B : Nat) (w w' : World) : Prop where
  bel : Below B w w'
  byt : ∀ (k : Nat) (cs : Array Value) (t : TypeId), t ≠ 3 → t ≠ 84 → w.heap[k]? = some (.cells cs t (0, 0)) → w'.heap[k]? = some (.cells cs t (0, 0))
  off : ∀ q, q < w.heap.size → ¬ O q → w'.heap[q]? = w.heap[q]?
theorem StC.refl (B : Nat) (w : World) : StC O B w w := ⟨Below.refl _ _, fun _ _ _ _ _ h => h, fun _ _ _ => rfl⟩
theorem StC.trans {a b d : World} (h : StC O B a b) (k : StC O B b d) : StC O B a d := ⟨h.bel.trans k.bel, fun i cs t h1 h2 hi => k.byt i cs t h1 h2 (h.byt i cs t h1 h2 hi), fun q hq hn => (k.off q (Nat.lt_of_lt_of_le hq h.bel.size) hn).trans (h.off q hq hn)⟩
theorem StC.of_ext (h : Ext w w') (hB : B ≤ w.heap.size) : StC O B w w' := ⟨h.below.mono hB, fun _ _ _ _ _ hk => h.heap_ hk, fun q hq _ => h.block q hq⟩
theorem StC.size (h : StC O B w w') : w.heap.size ≤ w'.heap.size := h.bel.size

/-- The crowd with another bound of what may be turned. -/
theorem CM.reO {O' : Nat → Prop} (h : CM O w B n z c) (h1 : O' z.lb) (h2 : O' z.mb) (h3 : ∀ k, k < n → O' (z.R k)) (h4 : ∀ k q, k < n → z.T k = some q → O' q) (h5 : ∀ q, w.heap.size ≤ q → O' q) : CM O' w B n z c :=
  ⟨h.row, h.regs, h.turns, h.mem, h.rm, h.rr, h.tm, h.tr, h.tt, h1, h2, h3, h4, h5⟩
/-- What lies above the crowd may be left out. -/
theorem CM.above (h : CM O w B n z c) {w' : World} (hx : Ext w w') {g : Nat} (hg : w.heap.size ≤ g) (hg2 : g < w'.heap.size) : CM (fun q => O q ∧ q ≠ g) w' B n z c :=
  (h.ext hx).reO ⟨h.olb, fun e => by have := h.lt.2; omega⟩ ⟨h.omb, fun e => by have := (OR.base_le h.mem).2; omega⟩ (fun k hk => ⟨h.oR k hk, fun e => by have := (OR.base_le (h.regs k hk)).2; omega⟩)
    (fun k q hk hq => ⟨h.oT k q hk hq, fun e => by have := (OR.block (h.turns k hk) q (by rw [own_adr]; exact hq)).2; omega⟩) (fun q hq => ⟨h.of q (Nat.le_trans hx.size hq), fun e => by omega⟩)
theorem CM.more {g : Nat} (h : CM (fun q => O q ∧ q ≠ g) w B n z c) (hO : O g) : CM O w B n z c :=
  h.reO h.olb.1 h.omb.1 (fun k hk => (h.oR k hk).1) (fun k q hk hq => (h.oT k q hk hq).1) (fun q hq => (h.of q hq).1)
theorem StC.more {O' : Nat → Prop} (h : StC O' B w w') (hO : ∀ q, O' q → O q) : StC O B w w' := ⟨h.bel, h.byt, fun q hq hn => h.off q hq (fun h' => hn (hO q h'))⟩

/-- A store of the place or of the waiting of a lane. -/
theorem CM.put (h : CM O w B n z c) (hB : B ≤ w.heap.size) {k j : Nat} {v : Value} {c' : Cw} (hk : k < n) (hj : j < 4) (hv : laneCell z k (c'.lane k) j = v) (hsame : ∀ i, i < 4 → i ≠ j → laneCell z k (c'.lane k) i = laneCell z k (c.lane k) i)
    (hoth : ∀ i, i < n → i ≠ k → c'.lane i = c.lane i) (hr : (c'.lane k).regs = (c.lane k).regs) (ht : (c'.lane k).turns = (c.lane k).turns) (hm : c'.mem = c.mem) :
    CM O (w.setCell ⟨z.lb, k * 4 + j, none⟩ v) B n z c' ∧ StC O B w (w.setCell ⟨z.lb, k * 4 + j, none⟩ v) := by
  obtain ⟨cur, hblk⟩ := h.heap
  have oi : ∀ {A : Option Addr} {m cc : Nat} {xs : List Int}, OI w B A m cc xs → OI (w.setCell ⟨z.lb, k * 4 + j, none⟩ v) B A m cc xs := fun ho => OR.set_other ho (p := ⟨z.lb, k * 4 + j, none⟩) (own_ne ho hblk (by decide)) _
  have hl : ∀ i, i < n → (c'.lane i).regs = (c.lane i).regs ∧ (c'.lane i).turns = (c.lane i).turns := fun i hi => by
    by_cases e : i = k
    · subst e; exact ⟨hr, ht⟩
    · rw [hoth i hi e]; exact ⟨rfl, rfl⟩
  refine ⟨⟨?_, fun i hi => ?_, fun i hi => ?_, ?_, h.rm, h.rr, h.tm, h.tr, h.tt, h.olb, h.omb, h.oR, h.oT, fun q hq => h.of q (by rw [size_set] at hq; exact hq)⟩, ⟨(Below.refl _ _).setCell h.lt.1 _, fun i cs t h1 h2 hi => (heap_set_other (type_ne hi hblk h2) _ _).trans hi, fun q _ hn => heap_set_other (fun e => hn (by rw [e]; exact h.olb)) _ _⟩⟩
  · have := (OR.at0 h.row).2.2 (k * 4 + j) v
    rw [lanesV_set (z' := z) (f' := c'.lane) hk hj hv hsame (fun i hi e q _ => by rw [hoth i hi e])] at this
    exact this
  · rw [(hl i hi).1]; exact oi (h.regs i hi)
  · rw [(hl i hi).2]; exact oi (h.turns i hi)
  · rw [hm]; exact oi h.mem

/-- Registers of a lane and the memory are others. -/
theorem CM.simp (h : CM O w B n z c) (hB : B ≤ w.heap.size) {k mn : Nat} (hk : k < n) (hmn : mn = c.mem.length) {x : Cd} {c' : Cw}
    (hs : Simp1 w B (z.R k) (z.RC k) z.mb mn z.mc x k (c.lane k).regs c.mem w') (hr : (c'.lane k).regs = (simp1 x k (c.lane k).regs c.mem).1) (hmem : c'.mem = (simp1 x k (c.lane k).regs c.mem).2)
    (hk2 : (c'.lane k).pos = (c.lane k).pos ∧ (c'.lane k).turns = (c.lane k).turns ∧ (c'.lane k).waits = (c.lane k).waits) (hoth : ∀ i, i < n → i ≠ k → c'.lane i = c.lane i) : CM O w' B n z c' ∧ StC O B w w' := by
  subst hmn
  obtain ⟨h1, h2, h3⟩ := hs
  obtain ⟨cr, hcr⟩ := OR.heap_ (h.regs k hk)
  obtain ⟨cm, hcm⟩ := OR.heap_ h.mem
  have hl := simp1_len x k (c.lane k).regs c.mem
  have hb : Below B w w' := h3.below (OR.block (h.regs k hk) _ rfl).1 (OR.block h.mem _ rfl).1 hB
  have hbt : ∀ (i : Nat) (cs : Array Value) (t : TypeId), t ≠ 3 → w.heap[i]? = some (.cells cs t (0, 0)) → w'.heap[i]? = some (.cells cs t (0, 0)) := fun i cs t ht hi => (h3.block i (lt_of_block hi) (type_ne hi hcr ht) (type_ne hi hcm ht)).trans hi
  refine ⟨⟨?_, fun i hi => ?_, fun i hi => ?_, ?_, h.rm, h.rr, h.tm, h.tr, h.tt, h.olb, h.omb, h.oR, h.oT, fun q hq => h.of q (Nat.le_trans hb.size hq)⟩, ⟨hb, fun i cs t h1 _ hi => hbt i cs t h1 hi, fun q hq hn => h3.block q hq (fun e => hn (by rw [e]; exact h.oR k hk)) (fun e => hn (by rw [e]; exact h.omb))⟩⟩
  · have e : lanesV z n c'.lane = lanesV z n c.lane := lanesV_congr fun i hi q _ => by
      by_cases e : i = k
      · subst e
        have : q = 0 ∨ q = 1 ∨ q = 2 ∨ 3 ≤ q := by omega
        rcases this with rfl | rfl | rfl | h3
        · rfl
        · simp only [laneCell, hk2.1]
        · simp only [laneCell, hk2.2.1]
        · match q, h3 with
          | q + 3, _ => simp only [laneCell, hk2.2.2]
      · rw [hoth i hi e]
    rw [e]
    exact h.row.byType fun b cs hi => hbt b cs _ (by decide) hi
  · by_cases e : i = k
    · subst e
      rw [hr]; exact h1
    · rw [hoth i hi e]
      exact OR.off (h.regs i hi) h3 (fun e2 => e (h.rr i k hi hk (by injection e2))) (fun e2 => h.rm i hi (by injection e2))
  · have ht : (c'.lane i).turns = (c.lane i).turns := by
      by_cases e : i = k
      · subst e; exact hk2.2.1
      · rw [hoth i hi e]
    rw [ht]
    refine OR.off (h.turns i hi) h3 (fun e2 => ?_) (fun e2 => ?_)
    · rw [own_adr] at e2; exact h.tr i k hi hk e2
    · rw [own_adr] at e2; exact h.tm i hi e2
  · rw [hmem]
    have : (simp1 x k (c.lane k).regs c.mem).2.length = c.mem.length := hl.2
    rw [this]
    exact h2

/-- A turn more, behind an append. -/
theorem CM.push {wb w2 : World} (h : CM O w B n z c) (hX : Ext w wb) (hB : B ≤ w.heap.size) {k g cap : Nat} {v : Int} {c' : Cw} (hk : k < n) (hg : wb.grownBy w2 (z.T k))
    (ho : OI w2 B (some ⟨g, 0, none⟩) ((c.lane k).turns.length + 1) cap ((c.lane k).turns ++ [v])) (hat : z.T k = some g ∨ wb.heap.size ≤ g)
    (ht : (c'.lane k).turns = (c.lane k).turns ++ [v]) (hk2 : (c'.lane k).regs = (c.lane k).regs ∧ (c'.lane k).pos = (c.lane k).pos ∧ (c'.lane k).waits = (c.lane k).waits) (hoth : ∀ i, i < n → i ≠ k → c'.lane i = c.lane i) (hm : c'.mem = c.mem) :
    CM O (w2.setCell ⟨z.lb, k * 4 + 2, none⟩ (.slice (some ⟨g, 0, none⟩) ((c.lane k).turns.length + 1) cap)) B n { z with T := fun j => if j = k then some g else z.T j, TC := fun j => if j = k then cap else z.TC j } c' ∧
      StC O B w (w2.setCell ⟨z.lb, k * 4 + 2, none⟩ (.slice (some ⟨g, 0, none⟩) ((c.lane k).turns.length + 1) cap)) := by
  have hb := h.ext hX
  obtain ⟨cur, hblk⟩ := hb.heap
  have hTk : ∀ q, z.T k = some q → B ≤ q ∧ q < wb.heap.size := fun q hq => OR.block (hb.turns k hk) q (by rw [own_adr]; exact hq)
  have kp : ∀ i, i < wb.heap.size → z.T k ≠ some i → w2.heap[i]? = wb.heap[i]? := fun i hi hne => hg.block i hi (fun e => hne e.symm)
  have hblk2 : w2.heap[z.lb]? = some (.cells cur 84 (0, 0)) := (kp _ hb.lt.2 (fun e => by
    have := own_ne (hb.turns k hk) hblk (by decide)
    rw [own_adr] at this
    exact this e)).trans hblk
  have oi : ∀ {A : Option Addr} {m cc : Nat} {xs : List Int}, OI wb B A m cc xs → (∀ q, Value.ownBlock (.slice A m cc) = some q → z.T k ≠ some q) → OI (w2.setCell ⟨z.lb, k * 4 + 2, none⟩ (.slice (some ⟨g, 0, none⟩) ((c.lane k).turns.length + 1) cap)) B A m cc xs := fun {A m cc xs} hx hne => by
    have h1 : OI w2 B A m cc xs := by
      refine OR.kept hx hg ?_
      cases hob : Value.ownBlock (.slice A m cc) with
      | none => exact .inl rfl
      | some q => exact .inr (fun e => hne q hob e.symm)
    exact OR.set_other h1 (p := ⟨z.lb, k * 4 + 2, none⟩) (own_ne h1 hblk2 (by decide)) _
  have hRlt : ∀ i, i < n → z.R i < wb.heap.size := fun i hi => (OR.base_le (hb.regs i hi)).2
  have hmlt : z.mb < wb.heap.size := (OR.base_le hb.mem).2
  have hTlt : ∀ i q, i < n → z.T i = some q → q < wb.heap.size := fun i q hi hq => (OR.block (hb.turns i hi) q (by rw [own_adr]; exact hq)).2
  have hrow2 : OR w2 B 84 4 (some ⟨z.lb, 0, none⟩) n z.lc (lanesV z n c.lane) := OR.kept hb.row hg (.inr fun e => by
    have := own_ne (hb.turns k hk) hblk (by decide)
    rw [own_adr] at this
    exact this e.symm)
  have hlst : Below B wb w2 := ⟨hg.os, hg.tape, hg.output, hg.size, fun i hi => kp i (by have := hX.size; omega) (fun e => by have := (hTk i e).1; omega)⟩
  have hoT : ∀ i q, i < n → (if i = k then some g else z.T i) = some q → O q := fun i q hi hq => by
    by_cases e : i = k
    · rw [if_pos e] at hq
      have hq := Option.some.inj hq
      subst hq
      rcases hat with h1 | h1
      · exact h.oT k g hk h1
      · exact h.of g (Nat.le_trans hX.size h1)
    · rw [if_neg e] at hq
      exact h.oT i q hi hq
  refine ⟨⟨?_, fun i hi => ?_, fun i hi => ?_, ?_, h.rm, h.rr, fun i hi => ?_, fun i j hi hj => ?_, fun i j q hi hj => ?_, h.olb, h.omb, h.oR, hoT, fun q hq => h.of q (by rw [size_set] at hq; exact Nat.le_trans hX.size (Nat.le_trans hg.size hq))⟩, ⟨(((hX.below).mono hB).trans hlst).setCell h.lt.1 _, fun i cs t h1 h2 hi => ?_, fun q hq hn => (heap_set_other (fun e => hn (by rw [e]; exact h.olb)) _ _).trans ((kp q (Nat.lt_of_lt_of_le hq hX.size) (fun e => hn (h.oT k q hk e))).trans (hX.block q hq))⟩⟩
  · have := (OR.at0 hrow2).2.2 (k * 4 + 2) (.slice (some ⟨g, 0, none⟩) ((c.lane k).turns.length + 1) cap)
    rw [lanesV_set (z' := { z with T := fun j => if j = k then some g else z.T j, TC := fun j => if j = k then cap else z.TC j }) (f' := c'.lane) hk (by decide) ?_ (fun i hi hne => ?_) (fun i hi hne q _ => ?_)] at this
    · exact this
    · simp only [laneCell, if_true, ht]
      simp [adr]
    · have : i = 0 ∨ i = 1 ∨ i = 3 := by omega
      rcases this with rfl | rfl | rfl
      · rfl
      · simp only [laneCell, hk2.2.1]
      · simp only [laneCell, hk2.2.2]
    · rw [hoth i hi hne]
      have : q = 0 ∨ q = 1 ∨ q = 2 ∨ 3 ≤ q := by omega
      rcases this with rfl | rfl | rfl | h3
      · rfl
      · rfl
      · simp only [laneCell, hne, if_false]
      · match q, h3 with
        | q + 3, _ => rfl
  · have e : (c'.lane i).regs = (c.lane i).regs := by
      by_cases e : i = k
      · subst e; exact hk2.1
      · rw [hoth i hi e]
    rw [e]
    refine oi (hb.regs i hi) (fun q hq => ?_)
    have : q = z.R i := by injection hq with hq; exact hq.symm
    subst this
    exact h.tr k i hk hi
  · by_cases e : i = k
    · subst e
      simp only [if_true]
      rw [ht]
      have hl : ((c.lane i).turns ++ [v]).length = (c.lane i).turns.length + 1 := by simp
      rw [hl]
      exact OR.set_other ho (p := ⟨z.lb, i * 4 + 2, none⟩) (own_ne ho hblk2 (by decide)) _
    · simp only [e, if_false]
      rw [hoth i hi e]
      refine oi (hb.turns i hi) (fun q hq hq2 => ?_)
      rw [own_adr] at hq
      exact e (h.tt i k q hi hk hq hq2)
  · rw [hm]
    refine oi hb.mem (fun q hq => ?_)
    have : q = z.mb := by injection hq with hq; exact hq.symm
    subst this
    exact h.tm k hk
  · by_cases e : i = k
    · subst e
      simp only [if_true]
      intro e2
      have e3 := Option.some.inj e2
      rcases hat with h1 | h1
      · exact h.tm i hk (by rw [h1, e3])
      · omega
    · simp only [e, if_false]; exact h.tm i hi
  · by_cases e : i = k
    · subst e
      simp only [if_true]
      intro e2
      have e3 := Option.some.inj e2
      rcases hat with h1 | h1
      · exact h.tr i j hk hj (by rw [h1, e3])
      · have := hRlt j hj; omega
    · simp only [e, if_false]; exact h.tr i j hi hj
  · by_cases e1 : i = k <;> by_cases e2 : j = k <;> simp only [e1, e2, if_true, if_false]
    · intro _ _; trivial
    · intro h3 h4
      have h3 := Option.some.inj h3
      subst h3
      rcases hat with h1 | h1
      · exact absurd (h.tt k j _ hk hj h1 h4) (fun e => e2 e.symm)
      · have := hTlt j _ hj h4; omega
    · intro h3 h4
      have h4 := Option.some.inj h4
      subst h4
      rcases hat with h1 | h1
      · exact absurd (h.tt i k _ hi hk h3 h1) e1
      · have := hTlt i _ hi h3; omega
    · exact h.tt i j q hi hj
  · have hib := hX.heap_ hi
    have h3 : w2.heap[i]? = some (.cells cs t (0, 0)) := (kp i (lt_of_block hib) (fun e => by
      have := own_ne (hb.turns k hk) hib (Ne.symm h1)
      rw [own_adr] at this
      exact this e)).trans hib
    rw [heap_set_other (type_ne h3 hblk2 h2)]
    exact h3

/-- The last turn is another. -/
theorem CM.dec (h : CM O w B n z c) {k b j : Nat} {v : Int} {c' : Cw} (hk : k < n) (hT : z.T k = some b) (hj : j < (c.lane k).turns.length)
    (ht : (c'.lane k).turns = (c.lane k).turns.set j v) (hk2 : (c'.lane k).regs = (c.lane k).regs ∧ (c'.lane k).pos = (c.lane k).pos ∧ (c'.lane k).waits = (c.lane k).waits) (hoth : ∀ i, i < n → i ≠ k → c'.lane i = c.lane i) (hm : c'.mem = c.mem) :
    CM O (w.setCell ⟨b, j, none⟩ (.int .i64 v)) B n z c' ∧ StC O B w (w.setCell ⟨b, j, none⟩ (.int .i64 v)) := by
  have hTk := h.turns k hk
  rw [hT] at hTk
  have hTk' : OI w B (some ⟨b, 0, none⟩) (c.lane k).turns.length (z.TC k) (c.lane k).turns := hTk
  obtain ⟨cb, hcb⟩ := OR.heap_ hTk'
  have hbB := (OR.base_le hTk').1
  have oi : ∀ {A : Option Addr} {m cc : Nat} {xs : List Int}, OI w B A m cc xs → Value.ownBlock (.slice A m cc) ≠ some b → OI (w.setCell ⟨b, j, none⟩ (.int .i64 v)) B A m cc xs := fun ho hne => OR.set_other ho (p := ⟨b, j, none⟩) hne _
  refine ⟨⟨?_, fun i hi => ?_, fun i hi => ?_, ?_, h.rm, h.rr, h.tm, h.tr, h.tt, h.olb, h.omb, h.oR, h.oT, fun q hq => h.of q (by rw [size_set] at hq; exact hq)⟩, ⟨(Below.refl _ _).setCell hbB _, fun i cs t h1 _ hi => (heap_set_other (type_ne hi hcb h1) _ _).trans hi, fun q _ hn => heap_set_other (fun e => hn (by rw [e]; exact h.oT k b hk hT)) _ _⟩⟩
  · have e : lanesV z n c'.lane = lanesV z n c.lane := lanesV_congr fun i hi q _ => by
      by_cases e : i = k
      · subst e
        have : q = 0 ∨ q = 1 ∨ q = 2 ∨ 3 ≤ q := by omega
        rcases this with rfl | rfl | rfl | h3
        · rfl
        · simp only [laneCell, hk2.2.1]
        · simp only [laneCell, ht, List.length_set]
        · match q, h3 with
          | q + 3, _ => simp only [laneCell, hk2.2.2]
      · rw [hoth i hi e]
    rw [e]
    exact OR.set_other h.row (p := ⟨b, j, none⟩) (own_ne h.row hcb (by decide)) _
  · have e : (c'.lane i).regs = (c.lane i).regs := by
      by_cases e : i = k
      · subst e; exact hk2.1
      · rw [hoth i hi e]
    rw [e]
    exact oi (h.regs i hi) (fun e => h.tr k i hk hi (by rw [hT]; injection e with e; exact congrArg some e.symm))
  · by_cases e : i = k
    · subst e
      rw [ht, hT, List.length_set]
      have := (OR.at0 hTk').2.2 j (.int .i64 v)
      unfold OI
      rw [List.map_set]
      exact this
    · rw [hoth i hi e]
      refine oi (h.turns i hi) (fun e2 => ?_)
      rw [own_adr] at e2
      exact e (h.tt i k b hi hk e2 hT)
  · rw [hm]
    exact oi h.mem (fun e => h.tm k hk (by rw [hT]; injection e with e; exact congrArg some e.symm))

/-- The last turn is gone. -/
theorem CM.pop (h : CM O w B n z c) {k : Nat} {c' : Cw} (hk : k < n)
    (ht : (c'.lane k).turns = (c.lane k).turns.dropLast) (hk2 : (c'.lane k).regs = (c.lane k).regs ∧ (c'.lane k).pos = (c.lane k).pos ∧ (c'.lane k).waits = (c.lane k).waits) (hoth : ∀ i, i < n → i ≠ k → c'.lane i = c.lane i) (hm : c'.mem = c.mem) :
    CM O (w.setCell ⟨z.lb, k * 4 + 2, none⟩ (.slice (adr (z.T k)) ((c.lane k).turns.length - 1) (z.TC k))) B n z c' ∧ StC O B w (w.setCell ⟨z.lb, k * 4 + 2, none⟩ (.slice (adr (z.T k)) ((c.lane k).turns.length - 1) (z.TC k))) := by
  obtain ⟨cur, hblk⟩ := h.heap
  have oi : ∀ {A : Option Addr} {m cc : Nat} {xs : List Int}, OI w B A m cc xs → OI (w.setCell ⟨z.lb, k * 4 + 2, none⟩ (.slice (adr (z.T k)) ((c.lane k).turns.length - 1) (z.TC k))) B A m cc xs := fun ho => OR.set_other ho (p := ⟨z.lb, k * 4 + 2, none⟩) (own_ne ho hblk (by decide)) _
  refine ⟨⟨?_, fun i hi => ?_, fun i hi => ?_, ?_, h.rm, h.rr, h.tm, h.tr, h.tt, h.olb, h.omb, h.oR, h.oT, fun q hq => h.of q (by rw [size_set] at hq; exact hq)⟩, ⟨(Below.refl _ _).setCell h.lt.1 _, fun i cs t h1 h2 hi => (heap_set_other (type_ne hi hblk h2) _ _).trans hi, fun q _ hn => heap_set_other (fun e => hn (by rw [e]; exact h.olb)) _ _⟩⟩
  · have := (OR.at0 h.row).2.2 (k * 4 + 2) (.slice (adr (z.T k)) ((c.lane k).turns.length - 1) (z.TC k))
    rw [lanesV_set (z' := z) (f' := c'.lane) hk (by decide) (by simp only [laneCell, ht, List.length_dropLast]) (fun i hi hne => ?_) (fun i hi e q _ => by rw [hoth i hi e])] at this
    · exact this
    · have : i = 0 ∨ i = 1 ∨ i = 3 := by omega
      rcases this with rfl | rfl | rfl
      · rfl
      · simp only [laneCell, hk2.2.1]
      · simp only [laneCell, hk2.2.2]
  · have e : (c'.lane i).regs = (c.lane i).regs := by
      by_cases e : i = k
      · subst e; exact hk2.1
      · rw [hoth i hi e]
    rw [e]; exact oi (h.regs i hi)
  · by_cases e : i = k
    · subst e
      rw [ht, List.length_dropLast]
      have h1 := OR.take_ (h.turns i hi) (m := (c.lane i).turns.length - 1) (by omega)
      have e2 : ((c.lane i).turns.map (Value.int .i64)).take (((c.lane i).turns.length - 1) * 1) = (c.lane i).turns.dropLast.map (Value.int .i64) := by
        rw [Nat.mul_one, List.dropLast_eq_take, List.map_take]
      rw [e2] at h1
      exact oi h1
    · rw [hoth i hi e]; exact oi (h.turns i hi)
  · rw [hm]; exact oi h.mem
end


theorem left_turns (b : Blk) : ∀ (d p q : Nat) (ts : List Int) (n : Nat), b.ok d → b.left p q ts = some n → ts.length ≤ d ∧ ∀ v ∈ ts, 0 ≤ v ∧ v ≤ 3 := by
  induction b with
  | nil =>
    intro d p q ts n _ h
    simp only [Blk.left] at h
    split at h
    · rename_i h'; obtain ⟨_, rfl⟩ := h'; simp
    · cases h
  | op x r ih =>
    intro d p q ts n ⟨_, _, _, hr⟩ h
    simp only [Blk.left] at h
    split at h
    · split at h
      · rename_i h'; subst h'; simp
      · cases h
    · exact ih d _ _ _ _ hr h
  | iff a t r iht ihr =>
    intro d p q ts n ⟨_, hd, ht, hr⟩ h
    simp only [Blk.left] at h
    split at h
    · split at h
      · rename_i h'; subst h'; simp
      · cases h
    · split at h
      · cases hk : t.left (p + 1) q ts with
        | none => rw [hk] at h; cases h
        | some k =>
          obtain ⟨h1, h2⟩ := iht _ _ _ _ _ ht hk
          exact ⟨by omega, h2⟩
      · exact ihr d _ _ _ _ hr h
  | ife a t e r iht ihe ihr =>
    intro d p q ts n ⟨_, hd, ht, he, hr⟩ h
    simp only [Blk.left] at h
    split at h
    · split at h
      · rename_i h'; subst h'; simp
      · cases h
    · split at h
      · cases hk : t.left (p + 1) q ts with
        | none => rw [hk] at h; cases h
        | some k =>
          obtain ⟨h1, h2⟩ := iht _ _ _ _ _ ht hk
          exact ⟨by omega, h2⟩
      · split at h
        · cases hk : e.left (p + t.flat.length + 2) q ts with
          | none => rw [hk] at h; cases h
          | some k =>
            obtain ⟨h1, h2⟩ := ihe _ _ _ _ _ he hk
            exact ⟨by omega, h2⟩
        · exact ihr d _ _ _ _ hr h
  | loop a c t r iht ihr =>
    intro d p q ts n ⟨_, hc, hd, ht, hr⟩ h
    simp only [Blk.left] at h
    split at h
    · split at h
      · rename_i h'; subst h'; simp
      · cases h
    · split at h
      · cases ts with
        | nil => cases h
        | cons k ts' =>
          simp only at h
          split at h
          · rename_i hkb
            cases hk : t.left (p + 1) q ts' with
            | none => rw [hk] at h; cases h
            | some j =>
              obtain ⟨h1, h2⟩ := iht _ _ _ _ _ ht hk
              refine ⟨by simp; omega, fun v hv => ?_⟩
              rcases List.mem_cons.1 hv with rfl | hv
              · omega
              · exact h2 v hv
          · cases h
      · exact ihr d _ _ _ _ hr h

theorem cdAt_drop_op {l : List Cd} {q : Nat} {x : Cd} {r : List Cd} (h : l.drop q = x :: r) : (cdAt l q).op = x.op := by rw [cdAt_drop h]
/-- At the end of a loop there is a turn. -/
theorem left_loop {l : List Cd} (b : Blk) : ∀ (d p q : Nat) (rest : List Cd) (ts : List Int) (n : Nat), b.ok d → l.drop p = b.flat ++ rest → q < p + b.flat.length → b.left p q ts = some n →
    (cdAt l q).op = 14 → opAt l (aroundN l q) = 13 → ts ≠ [] := by
  induction b with
  | nil =>
    intro d p q rest ts n _ _ hq h
    obtain ⟨h1, _⟩ := left_in _ _ _ _ _ h
    simp [Blk.flat] at hq
    omega
  | op x s ih =>
    intro d p q rest ts n ⟨hv, ho1, ho, hs⟩ hd hq h h14 h13
    have hd' : l.drop p = x :: (s.flat ++ rest) := by rw [hd]; simp [Blk.flat]
    obtain ⟨k1, k2, k3⟩ := drop_cons hd'
    simp only [Blk.left] at h
    by_cases e : q = p
    · subst e
      have := cdAt_drop_op hd'
      omega
    · rw [if_neg e] at h
      exact ih d (p + 1) q rest ts n hs k2 (by simp [Blk.flat] at hq; omega) h h14 h13
  | iff a t s iht ihs =>
    intro d p q rest ts n ⟨ha, hd1, ht, hs⟩ hd hq h h14 h13
    have hd' : l.drop p = cIf a :: (t.flat ++ cEnd :: (s.flat ++ rest)) := by rw [hd]; simp [Blk.flat]
    obtain ⟨-, k2, k3⟩ := end_iff ht hd'
    have har := around_tree ht (show opB (cIf a) = true from rfl) hd'
    have hlen : (Blk.iff a t s).flat.length = t.flat.length + 2 + s.flat.length := by simp [Blk.flat]; omega
    simp only [Blk.left] at h
    by_cases e : q = p
    · subst e
      have h1 := cdAt_drop_op hd'
      rw [h1] at h14
      exact absurd h14 (by simp [cIf])
    · rw [if_neg e] at h
      by_cases e2 : q < p + t.flat.length + 2
      · rw [if_pos e2] at h
        cases hk : t.left (p + 1) q ts with
        | none => rw [hk] at h; cases h
        | some k =>
          obtain ⟨g1, g2, g3⟩ := left_in _ _ _ _ _ hk
          by_cases e3 : q = p + 1 + t.flat.length
          · have e4 : q = p + t.flat.length + 1 := by omega
            subst e4
            rw [har, opAt_drop hd'] at h13
            exact absurd h13 (by simp [cIf])
          · exact iht _ (p + 1) q _ ts k ht k2 (by omega) hk h14 h13
      · rw [if_neg e2] at h
        exact ihs d (p + t.flat.length + 2) q rest ts n hs k3 (by omega) h h14 h13
  | ife a t e s iht ihe ihs =>
    intro d p q rest ts n ⟨ha, hd1, ht, he, hs⟩ hd hq h h14 h13
    have hd' : l.drop p = cIf a :: (t.flat ++ cElse :: (e.flat ++ cEnd :: (s.flat ++ rest))) := by rw [hd]; simp [Blk.flat]
    obtain ⟨-, k2, k4, k3⟩ := end_ife ht he hd'
    have har2 := around_ife ht he (show opB (cIf a) = true from rfl) hd'
    have hE : l.drop (p + t.flat.length + 1) = cElse :: (e.flat ++ cEnd :: (s.flat ++ rest)) := by
      have := drop_skip k2
      rw [← this]; congr 1; omega
    have hlen : (Blk.ife a t e s).flat.length = t.flat.length + e.flat.length + 3 + s.flat.length := by simp [Blk.flat]; omega
    simp only [Blk.left] at h
    by_cases e0 : q = p
    · subst e0
      have h1 := cdAt_drop_op hd'
      rw [h1] at h14
      exact absurd h14 (by simp [cIf])
    · rw [if_neg e0] at h
      by_cases e2 : q < p + t.flat.length + 2
      · rw [if_pos e2] at h
        cases hk : t.left (p + 1) q ts with
        | none => rw [hk] at h; cases h
        | some k =>
          obtain ⟨g1, g2, g3⟩ := left_in _ _ _ _ _ hk
          by_cases e3 : q = p + 1 + t.flat.length
          · have e4 : q = p + t.flat.length + 1 := by omega
            subst e4
            have h1 := cdAt_drop_op hE
            rw [h1] at h14
            exact absurd h14 (by simp [cElse])
          · exact iht _ (p + 1) q _ ts k ht k2 (by omega) hk h14 h13
      · rw [if_neg e2] at h
        by_cases e5 : q < p + t.flat.length + e.flat.length + 3
        · rw [if_pos e5] at h
          cases hk : e.left (p + t.flat.length + 2) q ts with
          | none => rw [hk] at h; cases h
          | some k =>
            obtain ⟨g1, g2, g3⟩ := left_in _ _ _ _ _ hk
            by_cases e3 : q = p + t.flat.length + 2 + e.flat.length
            · have e4 : q = p + t.flat.length + e.flat.length + 2 := by omega
              subst e4
              rw [har2, opAt_drop hd'] at h13
              exact absurd h13 (by simp [cIf])
            · exact ihe _ (p + t.flat.length + 2) q _ ts k he k4 (by omega) hk h14 h13
        · rw [if_neg e5] at h
          exact ihs d (p + t.flat.length + e.flat.length + 3) q rest ts n hs k3 (by omega) h h14 h13
  | loop a c t s iht ihs =>
    intro d p q rest ts n ⟨ha, hc, hd1, ht, hs⟩ hd hq h h14 h13
    have hd' : l.drop p = cLoop a c :: (t.flat ++ cEnd :: (s.flat ++ rest)) := by rw [hd]; simp [Blk.flat]
    obtain ⟨-, k2, k3⟩ := end_iff ht hd'
    have hlen : (Blk.loop a c t s).flat.length = t.flat.length + 2 + s.flat.length := by simp [Blk.flat]; omega
    simp only [Blk.left] at h
    by_cases e : q = p
    · subst e
      have h1 := cdAt_drop_op hd'
      rw [h1] at h14
      exact absurd h14 (by simp [cLoop])
    · rw [if_neg e] at h
      by_cases e2 : q < p + t.flat.length + 2
      · rw [if_pos e2] at h
        cases ts with
        | nil => cases h
        | cons k ts' => simp
      · rw [if_neg e2] at h
        exact ihs d (p + t.flat.length + 2) q rest ts n hs k3 (by omega) h h14 h13

theorem LnOk.turns {l : List Cd} (hp : pv l = true) {s : Ln} (h : LnOk l s) : s.turns.length ≤ 3 ∧ ∀ v ∈ s.turns, 0 ≤ v ∧ v ≤ 3 := by
  obtain ⟨n, hn⟩ := h.left
  exact left_turns _ _ _ _ _ _ (treeOf_spec hp).1 hn
theorem LnOk.loop_ {l : List Cd} (hp : pv l = true) {s : Ln} (h : LnOk l s) (hlt : s.pos < l.length) (h14 : (cdAt l s.pos).op = 14) (h13 : opAt l (aroundN l s.pos) = 13) : s.turns ≠ [] := by
  obtain ⟨n, hn⟩ := h.left
  obtain ⟨h1, h2⟩ := treeOf_spec hp
  exact left_loop (l := l) (treeOf l) 3 0 s.pos [] s.turns n h1 (by simp [h2]) (by rw [h2]; omega) hn h14 h13

/-! ### A lane of a crowd is another -/
def Cw.put (c : Cw) (k : Nat) (s : Ln) : Cw := ⟨c.ls.set k s, c.mem⟩
theorem put_lane {c : Cw} {k : Nat} (hk : k < c.ls.length) (s : Ln) : (c.put k s).lane k = s := by
  simp [Cw.put, Cw.lane, List.getD_eq_getElem?_getD, hk]
theorem put_other {c : Cw} {k j : Nat} (h : j ≠ k) (s : Ln) : (c.put k s).lane j = c.lane j := by
  simp [Cw.put, Cw.lane, List.getD_eq_getElem?_getD, List.getElem?_set_ne (fun e => h e.symm)]
theorem put_self {c : Cw} {k : Nat} (hk : k < c.ls.length) : c.put k (c.lane k) = c := by
  have e : c.ls[k]? = some (c.lane k) := by simp [Cw.lane, List.getD_eq_getElem?_getD, hk]
  have e2 : c.ls.set k (c.lane k) = c.ls := by
    apply List.ext_getElem?
    intro i
    rw [List.getElem?_set]
    by_cases h : k = i
    · subst h; rw [if_pos rfl, if_pos hk, e]
    · rw [if_neg h]
  unfold Cw.put
  rw [e2]
/-- A step that touches no cell and no register. -/
theorem stepAt_move {l : List Cd} {c : Cw} {k : Nat} (h : 10 < (cdAt l (c.lane k).pos).op) : stepAt l c k = c.put k ⟨(c.lane k).regs, (nextP l (c.lane k).regs (c.lane k).pos (c.lane k).turns).1, (nextP l (c.lane k).regs (c.lane k).pos (c.lane k).turns).2, false⟩ := by
  have hs : simp1 (cdAt l (c.lane k).pos) k (c.lane k).regs c.mem = ((c.lane k).regs, c.mem) := by
    generalize cdAt l (c.lane k).pos = x at h
    have e : ∀ j : Int, j ≤ 10 → (x.op == j) = false := fun j hj => beq_eq_false_iff_ne.2 (by omega)
    simp [simp1, e 1 (by decide), e 2 (by decide), e 3 (by decide), e 4 (by decide), e 5 (by decide), e 6 (by decide), e 7 (by decide), e 8 (by decide), e 9 (by decide)]
  have hw : ((cdAt l (c.lane k).pos).op == 10) = false := beq_eq_false_iff_ne.2 (by omega)
  unfold stepAt stepL Cw.put
  rw [hs, hw]
/-- A step that computes, loads or stores. -/
theorem stepAt_simple {l : List Cd} {c : Cw} {k : Nat} (h : (cdAt l (c.lane k).pos).op ≤ 10) : stepAt l c k = (⟨c.ls, (simp1 (cdAt l (c.lane k).pos) k (c.lane k).regs c.mem).2⟩ : Cw).put k ⟨(simp1 (cdAt l (c.lane k).pos) k (c.lane k).regs c.mem).1, (c.lane k).pos + 1, (c.lane k).turns, (cdAt l (c.lane k).pos).op == 10⟩ := by
  have hn := next_op (l := l) (q := (c.lane k).pos) (r := (c.lane k).regs) (ts := (c.lane k).turns) h
  unfold stepAt stepL Cw.put
  rw [hn]


def maskL (ks : List Nat) : Nat := ks.foldl (fun m k => m ||| 2 ^ k) 0
theorem maskL_snoc (ks : List Nat) (k : Nat) : maskL (ks ++ [k]) = maskL ks ||| 2 ^ k := by simp [maskL]
theorem maskL_bit (ks : List Nat) (j : Nat) : (maskL ks).testBit j = decide (j ∈ ks) := by
  have : ∀ (ks : List Nat) (m : Nat), (ks.foldl (fun m k => m ||| 2 ^ k) m).testBit j = (m.testBit j || decide (j ∈ ks)) := by
    intro ks
    induction ks with
    | nil => intro m; simp
    | cons k ks ih =>
      intro m
      simp only [List.foldl_cons, ih, Nat.testBit_or, List.mem_cons]
      by_cases h : j = k
      · subst h; simp [Nat.testBit_two_pow_self]
      · have : (2 ^ k).testBit j = false := by rw [Nat.testBit_two_pow]; simp; omega
        simp [this, h]
  have := this ks 0
  simpa [maskL] using this
theorem maskL_lt {ks : List Nat} (h : ∀ k ∈ ks, k < 8) : maskL ks < 256 := by
  have : ∀ (ks : List Nat) (m : Nat), (∀ k ∈ ks, k < 8) → m < 2 ^ 8 → ks.foldl (fun m k => m ||| 2 ^ k) m < 2 ^ 8 := by
    intro ks
    induction ks with
    | nil => intro m _ hm; exact hm
    | cons k ks ih =>
      intro m hk hm
      exact ih _ (fun j hj => hk j (List.mem_cons_of_mem _ hj)) (Nat.or_lt_two_pow hm (Nat.pow_lt_pow_right (by decide) (hk k List.mem_cons_self)))
  exact this ks 0 h (by decide)
theorem lanesOf_maskL {q : Nat → Bool} : lanesOf (maskL ((List.range 8).filter q)) = (List.range 8).filter q := by
  unfold lanesOf
  apply List.filter_congr
  intro k hk
  rw [maskL_bit]
  simp only [List.mem_filter, hk, true_and]
  cases q k <;> rfl
theorem filter_lanes {m : Nat} {q : Nat → Bool} : (lanesOf m).filter q = (List.range 8).filter fun k => m.testBit k && q k := by
  unfold lanesOf
  rw [List.filter_filter]
  apply List.filter_congr
  intro k _
  cases q k <;> cases m.testBit k <;> rfl
theorem lanes_among (l : List Cd) (c : Cw) (m : Nat) : lanesOf (maskL (amongL l c (lanesOf m))) = amongL l c (lanesOf m) := by
  unfold amongL
  rw [filter_lanes, lanesOf_maskL]
theorem lanes_nodup (m : Nat) : (lanesOf m).Nodup := (List.nodup_range).filter _

theorem leastP_snoc (l : List Cd) (c : Cw) (ks : List Nat) (k : Nat) : leastP l c (ks ++ [k]) = if goesL l (c.lane k) && decide ((c.lane k).pos < leastP l c ks) then (c.lane k).pos else leastP l c ks := by
  simp [leastP]
theorem leastP_le (l : List Cd) (c : Cw) (ks : List Nat) : leastP l c ks ≤ l.length ∧ ∀ j ∈ ks, goesL l (c.lane j) = true → leastP l c ks ≤ (c.lane j).pos := by
  rcases leastP_fold (l := l) (c := c) ks l.length (Nat.le_refl _) with ⟨e, h⟩ | ⟨k, _, h1, h2, h3, h4⟩
  · have e' : leastP l c ks = l.length := e
    rw [e']
    exact ⟨Nat.le_refl _, h⟩
  · have e' : leastP l c ks = (c.lane k).pos := h3
    rw [e']
    exact ⟨by omega, h4⟩
theorem among_less {l : List Cd} {c : Cw} {ks : List Nat} {k : Nat} (hg : goesL l (c.lane k) = true) (h : (c.lane k).pos < leastP l c ks) : leastP l c (ks ++ [k]) = (c.lane k).pos ∧ amongL l c (ks ++ [k]) = [k] := by
  have e : leastP l c (ks ++ [k]) = (c.lane k).pos := by rw [leastP_snoc, hg]; simp [h]
  refine ⟨e, ?_⟩
  unfold amongL
  rw [e, List.filter_append]
  have h1 : ks.filter (fun j => goesL l (c.lane j) && decide ((c.lane j).pos = (c.lane k).pos)) = [] := by
    rw [List.filter_eq_nil_iff]
    intro j hj
    simp only [Bool.and_eq_true, decide_eq_true_eq, not_and]
    intro hgj
    have := (leastP_le l c ks).2 j hj hgj
    omega
  rw [h1]
  simp [hg]
theorem among_same {l : List Cd} {c : Cw} {ks : List Nat} {k : Nat} (hg : goesL l (c.lane k) = true) (h : (c.lane k).pos = leastP l c ks) : leastP l c (ks ++ [k]) = leastP l c ks ∧ amongL l c (ks ++ [k]) = amongL l c ks ++ [k] := by
  have e : leastP l c (ks ++ [k]) = leastP l c ks := by rw [leastP_snoc, hg]; simp [h]
  refine ⟨e, ?_⟩
  unfold amongL
  rw [e, List.filter_append]
  simp [hg, h]
theorem among_more {l : List Cd} {c : Cw} {ks : List Nat} {k : Nat} (h : goesL l (c.lane k) = true → leastP l c ks < (c.lane k).pos) : leastP l c (ks ++ [k]) = leastP l c ks ∧ amongL l c (ks ++ [k]) = amongL l c ks := by
  have e : leastP l c (ks ++ [k]) = leastP l c ks := by
    rw [leastP_snoc]
    cases hg : goesL l (c.lane k) with
    | false => simp
    | true => have := h hg; rw [if_neg]; simp; omega
  refine ⟨e, ?_⟩
  unfold amongL
  rw [e, List.filter_append]
  have : [k].filter (fun j => goesL l (c.lane j) && decide ((c.lane j).pos = leastP l c ks)) = [] := by
    rw [List.filter_eq_nil_iff]
    intro j hj
    have : j = k := by simpa using hj
    subst this
    simp only [Bool.and_eq_true, decide_eq_true_eq, not_and]
    intro hgj
    have := h hgj
    omega
  rw [this, List.append_nil]

/-! ### Steps of lanes that go -/
/-- The crowd behind a step of lane k, if this goes. -/
def stepIf (l : List Cd) (c : Cw) (k : Nat) : Cw := if goesL l (c.lane k) then stepAt l c k else c
theorem stepIf_ok {l : List Cd} (hp : pv l = true) {n : Nat} (n8 : n ≤ 8) {c : Cw} (h : CwOk l n c) {k : Nat} (hk : k < n) : CwOk l n (stepIf l c k) ∧ (stepIf l c k).mem.length = c.mem.length := by
  unfold stepIf
  split
  · rename_i hg
    obtain ⟨h1, _, h3⟩ := h.stepAt hp n8 hk (goes_pos hg).2
    exact ⟨h1, h3⟩
  · exact ⟨h, rfl⟩
theorem steps_go {l : List Cd} : ∀ (ks : List Nat) (c : Cw), ks.Nodup → (∀ k ∈ ks, goesL l (c.lane k) = true) → ks.foldl (stepIf l) c = ks.foldl (stepAt l) c
  | [], _, _, _ => rfl
  | k :: ks, c, hn, hg => by
    obtain ⟨h1, h2⟩ := List.nodup_cons.1 hn
    simp only [List.foldl_cons]
    have e : stepIf l c k = stepAt l c k := by unfold stepIf; rw [if_pos (hg k List.mem_cons_self)]
    rw [e]
    refine steps_go ks _ h2 (fun j hj => ?_)
    rw [lane_stepAt (fun e => by subst e; exact h1 hj)]
    exact hg j (List.mem_cons_of_mem _ hj)
theorem stepG_eq (l : List Cd) (c : Cw) (m : Nat) : stepG l c (lanesOf m) = passC l ((lanesOf (maskL (amongL l c (lanesOf m)))).foldl (stepIf l) c) := by
  rw [lanes_among]
  unfold stepG
  rw [steps_go (amongL l c (lanesOf m)) c ((lanes_nodup m).filter _) (fun k hk => (among_sub hk).2)]

/-! ### A barrier passed, lane by lane -/
def freeTo (c : Cw) (i : Nat) : Cw := ⟨(List.range c.ls.length).map fun j => if j < i then { c.lane j with waits := false } else c.lane j, c.mem⟩
theorem freeTo_lane {c : Cw} {i j : Nat} (hj : j < c.ls.length) : (freeTo c i).lane j = if j < i then { c.lane j with waits := false } else c.lane j := by
  have : ((freeTo c i).ls)[j]? = some (if j < i then { c.lane j with waits := false } else c.lane j) := by simp [freeTo, hj]
  show ((freeTo c i).ls).getD j Ln.new = _
  rw [List.getD_eq_getElem?_getD, this]
  rfl
theorem cw_eta (c : Cw) : (List.range c.ls.length).map c.lane = c.ls := by
  apply List.ext_getElem?
  intro i
  by_cases h : i < c.ls.length
  · simp [h, Cw.lane, List.getD_eq_getElem?_getD]
  · rw [List.getElem?_eq_none (by simp; omega), List.getElem?_eq_none (by omega)]
theorem freeTo_zero (c : Cw) : freeTo c 0 = c := by
  unfold freeTo
  simp only [Nat.not_lt_zero, if_false]
  have := cw_eta c
  cases c
  simp only at this ⊢
  rw [Cw.mk.injEq]
  exact ⟨this, rfl⟩
theorem freeTo_all {l : List Cd} {c : Cw} (h : ∀ k, k < c.ls.length → goesL l (c.lane k) = false) : freeTo c c.ls.length = passC l c := by
  have hn : c.ls.any (goesL l) = false := by
    rw [List.any_eq_false]
    intro s hs
    obtain ⟨k, hk, rfl⟩ := List.getElem_of_mem hs
    have := h k hk
    have e : c.lane k = c.ls[k] := by simp [Cw.lane, List.getD_eq_getElem?_getD, hk]
    rw [e] at this
    simp [this]
  unfold passC
  rw [hn]
  simp only [Bool.false_eq_true, if_false]
  unfold freeTo
  rw [Cw.mk.injEq]
  refine ⟨?_, rfl⟩
  have e : (List.range c.ls.length).map (fun j => if j < c.ls.length then ({ c.lane j with waits := false } : Ln) else c.lane j) = (List.range c.ls.length).map (fun j => ({ c.lane j with waits := false } : Ln)) := by
    apply List.map_congr_left
    intro j hj
    rw [if_pos (List.mem_range.1 hj)]
  rw [e]
  have := congrArg (List.map fun s : Ln => ({ s with waits := false } : Ln)) (cw_eta c)
  rw [List.map_map] at this
  exact this
theorem pass_go {l : List Cd} {c : Cw} {k : Nat} (hk : k < c.ls.length) (hg : goesL l (c.lane k) = true) : passC l c = c := by
  unfold passC
  rw [if_pos]
  rw [List.any_eq_true]
  have e : c.lane k = c.ls[k] := by simp [Cw.lane, List.getD_eq_getElem?_getD, hk]
  exact ⟨c.ls[k], List.getElem_mem hk, by rw [← e]; exact hg⟩
theorem over_iff_pos {l : List Cd} {n : Nat} {c : Cw} (h : CwOk l n c) (hp : pv l = true) : overC l c = true ↔ ∀ k, k < n → (c.lane k).pos = l.length := by
  unfold overC
  rw [List.all_eq_true]
  constructor
  · intro h1 k hk
    obtain ⟨e, hL⟩ := h.at_ hk
    have := h1 _ (List.mem_of_getElem? e)
    have := (hL.pos_le hp).1
    simp only [decide_eq_true_eq] at *
    omega
  · intro h1 s hs
    obtain ⟨k, hk, rfl⟩ := List.getElem_of_mem hs
    have e : c.lane k = c.ls[k] := by simp [Cw.lane, List.getD_eq_getElem?_getD, hk]
    have := h1 k (by rw [← h.len]; exact hk)
    rw [e] at this
    simp [this]

end Go.Proofs.YtelbfeidpcojmaaGreat
