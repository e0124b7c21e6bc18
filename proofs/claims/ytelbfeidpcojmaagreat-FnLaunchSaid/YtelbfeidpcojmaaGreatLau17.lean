/- Part 17 of what the claim needs. -/
import Derived.Test.YtelbfeidpcojmaaGreatLau2
import Derived.Test.YtelbfeidpcojmaaGreatLau5
import Derived.Test.YtelbfeidpcojmaaGreatLau6
import Derived.Test.YtelbfeidpcojmaaGreatLau8
import Derived.Test.YtelbfeidpcojmaaGreatLau15
import Derived.Test.YtelbfeidpcojmaaGreatLau16
import Derived.Maps.AppendAt
namespace Go.Proofs.YtelbfeidpcojmaaGreat
open Go.RowKit
set_option linter.unusedVariables false
set_option linter.unusedSimpArgs false

theorem deadB_no {l : List Cd} {k : Nat} (h : wset (cdAt l k) = 0) : deadB l k = false := by simp [deadB, h, mdiff_zero]
theorem deadB_bit {l : List Cd} {k a : Nat} (h : wset (cdAt l k) = 2 ^ a) : deadB l k = !(outSet l (liveFix l) k).testBit a := by
  unfold deadB
  rw [h]
  congr 1
  cases hb : (outSet l (liveFix l) k).testBit a with
  | true =>
    rw [beq_iff_eq]
    apply Nat.eq_of_testBit_eq
    intro i
    rw [testBit_mdiff, Nat.testBit_two_pow]
    by_cases e : a = i
    · subst e; simp [hb]
    · simp [e]
  | false =>
    rw [beq_eq_false_iff_ne]
    intro e
    have := congrArg (fun n => n.testBit a) e
    simp [testBit_mdiff, hb] at this
theorem bit_tm0 (m k : Nat) : ((((m : Int) / 2 ^ k).tmod 2) == 0) = !m.testBit k := by
  have h := bit_tm m k
  have e : ((m : Int) / 2 ^ k) = ((m >>> k : Nat) : Int) := by
    rw [Nat.shiftRight_eq_div_pow]; simp
  rw [e, Int.tmod_eq_emod_of_nonneg (Int.natCast_nonneg _)] at h ⊢
  rw [← h]
  generalize m >>> k = q
  have : (q : Int) % 2 = 0 ∨ (q : Int) % 2 = 1 := by omega
  rcases this with h | h <;> rw [h] <;> rfl

/-- append of one number; where the new row lies. -/
theorem app_intA {w : World} {ops : Array Oper} {rest : List Oper} {o : Oper} {a : Act} {Q : Exit → Act → World → Prop} (hgd : o.guard = none) (s x : Operand) (ho : o.op = .call { callee := .builtin .append, args := #[s, x], argTypes := #[24, 24] })
    (base : Nat) (A : Option Addr) (n c : Nat) (xs : List Int) (hown : OI w base A n c xs) (hs : a.eval s = .slice A n c)
    (y : Int) (g cc : Nat) (hx : a.eval x = .slice (some ⟨g, 0, none⟩) 1 cc) (hc : w.cell? ⟨g, 0, none⟩ = some (.int .i64 y)) (hn : n < 1000000000000) (hbase : base ≤ w.heap.size)
    (hK : ∀ A' c' w', OI w' base A' (n + 1) c' (xs ++ [y]) → w.grownBy w' (Value.ownBlock (.slice A n c)) → (Value.ownBlock (.slice A' (n + 1) c') = Value.ownBlock (.slice A n c) ∨ Value.ownBlock (.slice A' (n + 1) c') = some w.heap.size) → wpList Tryz.prog ops Q rest (a.put o.dst (.slice A' (n + 1) c')) w') :
    wpList Tryz.prog ops Q (o :: rest) a w := by
  obtain ⟨i0, hi, hz0, hz1, hz2⟩ := info_parts infoInt
  refine wpList_append_own_at _ hgd s x 24 ho base 3 i0 _ 1 8 Tryz.underlying24 hi hz0 hz1 hz2 rfl (by decide) _ _ _ hs hown ⟨g, 0, none⟩ 1 cc [.int .i64 y] hx rfl ?_ ?_ (by unfold maxLen; omega) (by omega) hbase ?_
  · intro j u hu
    match j, hu with
    | 0, hu => simp at hu; subst hu; rw [add_lit]; exact hc
  · intro u hu; simp at hu; subst hu; rfl
  · intro v' w' hown' hgrow _ hat
    obtain ⟨A', c', rfl, h'⟩ := OR.slice_ hown'
    exact hK A' c' w' (by unfold OI; rw [List.map_append]; exact h') hgrow hat
theorem GOw.keepTo {w w' : World} {base n c m : Nat} {A : Option Addr} {f : Nat → List Int} (h : GOw w base A n c f m) (hk : ∀ k, k < w.heap.size → base ≤ k → w'.heap[k]? = w.heap[k]?) : GOw w' base A n c f m := by
  obtain ⟨vs, h1, h2⟩ := h
  refine ⟨vs, h1.keep hk, fun k hk' => ?_⟩
  obtain ⟨A', c', e, hr⟩ := h2 k hk'
  exact ⟨A', c', e, OR.keep hr hk⟩

def natL (xs : List Nat) : List Int := xs.map fun (k : Nat) => (k : Int)
def DPRel (w w2 : World) (l : List Cd) (ov kv : Value) (wr : World) : Prop :=
  ∃ (k : Nat) (A : Option Addr) (c : Nat), k ≤ l.length ∧ kv = .int .i64 k ∧ ov = .slice A (deadN l k).length c ∧ OI wr w.heap.size A (deadN l k).length c (natL (deadN l k)) ∧ Below w.heap.size w wr ∧
    Hid (∀ b, Value.ownBlock (.slice A (deadN l k).length c) = some b → b = w.heap.size ∨ w2.heap.size ≤ b) ∧ Hid (∀ b, b < w2.heap.size → w.heap.size + 1 ≤ b → wr.heap[b]? = w2.heap[b]?) ∧ w2.heap.size ≤ wr.heap.size

set_option maxRecDepth 100000 in
set_option maxHeartbeats 8000000 in
theorem sDeadPlaces_c (A : Option Addr) (c : Nat) (l : List Cd) (w : World) (hA : RdC w w.heap.size A l) (hp : pv l = true) :
    Calls Tryz.prog 117 #[.slice A l.length c] w (RetI w (deadL l)) := by
  have h40 := (pv_iff.1 hp).1
  have HP := Lib.hid hp
  have HFX := Lib.hid (fix_is hp)
  have hb0 := (Below.refl w.heap.size w).alloc (Nat.le_refl _) (.cells #[] 3)
  have ho0 := OI.empty_ w w.heap.size (Nat.le_refl _)
  have HO0 := Lib.hid ho0
  have HB0 := Lib.hid hb0
  clear ho0 hb0
  go_enter Tryz.func117, Tryz.ntmps117
  go_wp2_with fail
  refine (sLiveSets_c A c l _ ((hA.below HB0.out).more HB0.out.size) HP.out).mono ?_
  rintro e w1 ⟨AL, cL, rfl, hoL, hb1⟩
  rw [lvRow_len]
  have hbW1 := below_trans HB0.out (Nat.le_refl _) hb1
  have ho1 := OR.below HO0.out hb1 (Nat.le_refl _)
  have hs01 := hb1.size
  simp only [World.size_alloc] at hs01
  have hOL : OI w1 (w.heap.size + 1) AL (l.length + 1) cL (lvRow (liveFix l) (l.length + 1)) := by
    rcases hoL with ⟨h0, _⟩ | h
    · rw [lvRow_len] at h0; omega
    · rw [lvRow_len] at h; simpa using h
  clear hoL
  go_wp2_with fail
  refine (sGraphOf_c A c l w1 ((hA.below hbW1).more hbW1.size) HP.out).mono ?_
  rintro e w2 ⟨Ag, cg, rfl, hG, hb2⟩
  have hbW2 := below_trans hbW1 (Nat.le_refl _) hb2
  have ho2 := OR.below ho1 hb2 (Nat.le_refl _)
  have HG := Lib.hid (hG.mono hs01)
  have HL := Lib.hid (OR.below hOL hb2 (Nat.le_refl _))
  have hs2 := hbW2.size
  have hs12 := hb2.size
  clear hOL ho1 hb1 hb2 hG
  go_wp2
  go_loopw [3, 6] (fun ov kv wr => DPRel w w2 l ov kv wr) (fun _ kv _ => l.length - (intOf kv).toNat)
  case atStart => exact ⟨0, _, 0, Nat.zero_le _, rfl, rfl, ho2, hbW2, Lib.hid (fun b hb => .inl (by simp [Value.ownBlock] at hb; exact hb.symm)), Lib.hid (fun b _ _ => rfl), Nat.le_refl _⟩
  case round =>
    clear ho2 hbW2 hs2
    obtain ⟨k, A1, c1, hk, rfl, rfl, ho, hb, HAB, HKP, hww⟩ := hrel
    have hs := hb.size
    have hlp : decide ((0 : Int) < ((l.length + 1 : Nat) : Int)) = true := decide_eq_true (by omega)
    by_cases hlt : k < l.length
    · obtain ⟨b, off, x, rfl, hbB, hx, d0, d1, d2, d3⟩ := (hA.below hb).at_ hlt
      have hcd := cdAt_get hx
      have HX := Lib.hid hx
      have HVX := Lib.hid (pv_all HP.out _ (List.mem_of_getElem? hx))
      have HSU := Lib.hid (deadN_succ l k)
      have hdl := deadN_len l k
      clear hx
      go_wp2_with fail
      refine (sCodeWrites_c x _).mono ?_
      rintro e w3 ⟨rfl, hb3⟩
      have hbW3 := below_trans hb (Nat.le_refl _) hb3
      have ho3 := OR.below ho hb3 (Nat.le_refl _)
      have hs3 := hbW3.size
      have hww3 := hb3.size
      have HKP3 := Lib.hid (show ∀ b, b < w2.heap.size → w.heap.size + 1 ≤ b → w3.heap[b]? = w2.heap[b]? from fun b h1 h2 => (hb3.block b (by omega)).trans (HKP.out b h1 h2))
      clear ho d0 d1 d2 d3
      have hwr : (wreg x = -1 ∧ wset x = 0) ∨ (∃ a : Nat, a ≤ 3 ∧ wreg x = (a : Int) ∧ wset x = 2 ^ a) := by
        have ha := cvOk_a HVX.out
        unfold wreg wset
        cases hc : (cvOk x && inR x.op 1 8) with
        | false => exact .inl ⟨rfl, rfl⟩
        | true => exact .inr ⟨x.a.toNat, by omega, by simp only [if_true]; omega, rfl⟩
      rcases hwr with ⟨hw1, hw2⟩ | ⟨a, ha3, hw1, hw2⟩
      · have hD := Lib.hid (show deadN l (k + 1) = deadN l k by rw [HSU.out, deadB_no (by rw [hcd]; exact hw2)]; simp)
        rw [hw1]
        clear hcd hw1 hw2
        go_wp2
        go_roundw
        case rel => exact ⟨k + 1, A1, c1, by omega, by go_num, by rw [hD.out], by rw [hD.out]; exact ho3, hbW3, by rw [hD.out]; exact HAB, HKP3, by omega⟩
        case measure => simp [intOf]; omega
      · have hDB := Lib.hid (show deadB l k = !(outSet l (liveFix l) k).testBit a from deadB_bit (by rw [hcd]; exact hw2))
        have hG3 : GRd w3 w3.heap.size Ag (succI l) (l.length + 1) := (HG.out.keepTo HKP3.out).rd
        have hL3 : RdI w3 w3.heap.size AL (lvRow (liveFix l) (l.length + 1)) := by
          have := OR.reads (OR.keep HL.out HKP3.out)
          unfold RdI
          rw [lvRow_len]
          exact this
        rw [hw1]
        clear hcd hw1 hw2
        go_wp2_with fail
        refine (l19Out_c Ag AL cg cL l (liveFix l) k w3 hG3 hL3 HP.out hlt HFX.out.1.b16).mono ?_
        rintro e w4 ⟨rfl, hb4⟩
        have hbW4 := below_trans hbW3 (Nat.le_refl _) hb4
        have ho4 := OR.below ho3 hb4 (Nat.le_refl _)
        have hs4 := hbW4.size
        have hww4 := hb4.size
        have HKP4 := Lib.hid (show ∀ b, b < w2.heap.size → w.heap.size + 1 ≤ b → w4.heap[b]? = w2.heap[b]? from fun b h1 h2 => (hb4.block b (by omega)).trans (HKP3.out b h1 h2))
        have hbt := bit_tm0 (outSet l (liveFix l) k) a
        generalize outSet l (liveFix l) k = o at *
        clear ho3 hG3 hL3 hb4
        cases hbit : o.testBit a with
        | true =>
          rw [hbit] at hbt
          have hD := Lib.hid (show deadN l (k + 1) = deadN l k by rw [HSU.out, hDB.out, hbit]; simp)
          clear hbit
          go_wp2
          go_roundw
          case rel => exact ⟨k + 1, A1, c1, by omega, by go_num, by rw [hD.out], by rw [hD.out]; exact ho4, hbW4, by rw [hD.out]; exact HAB, HKP4, by omega⟩
          case measure => simp [intOf]; omega
        | false =>
          rw [hbit] at hbt
          have hD := Lib.hid (show deadN l (k + 1) = deadN l k ++ [k] by rw [HSU.out, hDB.out, hbit]; simp)
          have hlen : (deadN l (k + 1)).length = (deadN l k).length + 1 := by rw [hD.out]; simp
          have HO4 := Lib.hid (OR.alloc ho4 (.cells #[.int .i64 k] 3))
          clear hbit
          go_wp2_with (at_builtin; refine app_intA rfl _ _ rfl w.heap.size A1 _ c1 _ HO4.out rfl k w4.heap.size 1 rfl ?hc ?hn ?hb ?_)
          case hc => simp [go_sem]
          case hn => omega
          case hb => simp; omega
          intro A' c' w5 ho5 hg5 hat5
          have hb5 := below_app hbW4 hs4 ho4 (Nat.le_refl _) hg5
          have hs5 := hg5.size
          simp only [World.size_alloc] at hs5 hat5
          have HAB5 := Lib.hid (show ∀ b, Value.ownBlock (.slice A' ((deadN l k).length + 1) c') = some b → b = w.heap.size ∨ w2.heap.size ≤ b from fun b hb => by
            rcases hat5 with h | h
            · exact HAB.out b (by rw [← h]; exact hb)
            · rw [h] at hb; injection hb with hb; exact .inr (by omega))
          have HKP5 := Lib.hid (show ∀ b, b < w2.heap.size → w.heap.size + 1 ≤ b → w5.heap[b]? = w2.heap[b]? from fun b h1 h2 =>
            (hg5.block b (by simp; omega) (fun e => by rcases HAB.out b e.symm with h | h <;> omega)).trans ((Below.heap_alloc w4 _ b (by omega)).trans (HKP4.out b h1 h2)))
          clear hat5
          go_wp2
          go_roundw
          case rel => exact ⟨k + 1, A', c', by omega, by go_num, by rw [hlen], by rw [hlen]; unfold natL at *; rw [hD.out, List.map_append]; exact ho5, hb5, by rw [hlen]; exact HAB5, HKP5, by omega⟩
          case measure => simp [intOf]; omega
    · obtain rfl : k = l.length := by omega
      have hdl : (deadL l).length = (deadN l l.length).length := by simp [deadL]
      go_wp2
      go_ret
      refine ⟨A1, c1, ?_, ?_, hb⟩
      · rw [hdl]; rfl
      · exact .inr (by rw [hdl]; exact ho)

theorem dropF_more : ∀ (n : Nat) (l : List Cd), l.length ≤ n → dropF (n + 1) l = dropF n l
  | 0, l, h => by
    obtain rfl : l = [] := List.eq_nil_of_length_eq_zero (by omega)
    simp [dropF, deadN]
  | n + 1, l, h => by
    by_cases hd : deadN l l.length = []
    · simp [dropF, hd]
    · have hl := keep_lt hd
      have ih := dropF_more n (keepN l l.length) (by omega)
      show (if deadN l l.length = [] then l else dropF (n + 1) (keepN l l.length)) = (if deadN l l.length = [] then l else dropF n (keepN l l.length))
      rw [if_neg hd, if_neg hd, ih]
theorem dropF_from : ∀ (d n : Nat) (l : List Cd), l.length ≤ n → dropF (n + d) l = dropF n l
  | 0, _, _, _ => rfl
  | d + 1, n, l, h => by rw [show n + (d + 1) = (n + d) + 1 by omega, dropF_more (n + d) l (by omega), dropF_from d n l h]
/-- A program until nothing is dead. -/
noncomputable def dropD (l : List Cd) : List Cd := dropF l.length l
theorem dropD_done {l : List Cd} (h : deadN l l.length = []) : dropD l = l := by
  unfold dropD
  cases hn : l.length with
  | zero => rfl
  | succ n => rw [hn] at h; simp [dropF, hn, h]
theorem dropD_more {l : List Cd} (h : deadN l l.length ≠ []) : dropD l = dropD (keepN l l.length) := by
  have hl := keep_lt h
  unfold dropD
  obtain ⟨n, hn⟩ : ∃ n, l.length = n + 1 := ⟨l.length - 1, by omega⟩
  have e : dropF l.length l = dropF n (keepN l l.length) := by
    rw [hn]
    show (if deadN l l.length = [] then l else dropF n (keepN l l.length)) = _
    rw [if_neg h, hn]
  rw [e, show n = (keepN l l.length).length + (n - (keepN l l.length).length) by omega, dropF_from _ _ _ (Nat.le_refl _)]

def DDRel (w : World) (l : List Cd) (xv dv : Value) (wr : World) : Prop :=
  ∃ (X : List Cd) (A : Option Addr) (c : Nat) (Ad : Option Addr) (cd : Nat), xv = .slice A X.length c ∧ dv = .slice Ad (deadL X).length cd ∧ OC wr w.heap.size A X.length c X ∧ RdI wr wr.heap.size Ad (deadL X) ∧ Below w.heap.size w wr ∧
    Hid (pv X = true) ∧ Hid (dropD l = dropD X) ∧ X.length ≤ 40

def DIRel (wo : World) (X : List Cd) (yv av kv : Value) (wr : World) : Prop :=
  ∃ (k : Nat) (A : Option Addr) (c : Nat), k ≤ X.length ∧ kv = .int .i64 k ∧ av = .int .i64 (deadN X k).length ∧ yv = .slice A (keepN X k).length c ∧ OC wr wo.heap.size A (keepN X k).length c (keepN X k) ∧ Below wo.heap.size wo wr

set_option maxRecDepth 100000 in
set_option maxHeartbeats 8000000 in
theorem sDropDead_c (A : Option Addr) (c : Nat) (l : List Cd) (w : World) (hA : RdC w w.heap.size A l) (hl : l.length ≤ 1000000000) (hc0 : A = none → c = 0) :
    Calls Tryz.prog 78 #[.slice A l.length c] w (RetC w (dropDeadL l)) := by
  cases hp : pv l with
  | false =>
    have HD := Lib.hid (show dropDeadL l = [] by simp [dropDeadL, hp])
    go_enter Tryz.func78, Tryz.ntmps78
    go_wp2_with fail
    refine (sProgramValid_c A c l w hA hl).mono ?_
    rintro e w1 ⟨rfl, hb1⟩
    rw [hp]
    go_wp2
    go_ret
    rw [HD.out]
    exact RetC.of (OC.empty_ w1 _ hb1.size) (hb1.alloc hb1.size _)
  | true =>
    have HP := Lib.hid hp
    have h40 := (pv_iff.1 hp).1
    have HD := Lib.hid (show dropDeadL l = dropD l by simp [dropDeadL, hp, dropD])
    go_enter Tryz.func78, Tryz.ntmps78
    go_wp2_with fail
    refine (sProgramValid_c A c l w hA hl).mono ?_
    rintro e w1 ⟨rfl, hb1⟩
    rw [hp]
    clear hp
    have hb2 := hb1.alloc hb1.size (.cells #[] 76)
    have HO := Lib.hid (OC.empty_ w1 w.heap.size hb1.size)
    have HA2 := Lib.hid ((hA.below hb2).more hb2.size)
    go_wp2_with (at_builtin; refine app_cs rfl _ _ rfl w.heap.size _ _ _ _ HO.out rfl w1.heap.size.succ A l.length c l rfl rfl hc0 ?hr ?hn ?hb ?_)
    case hr => have := HA2.out; simpa using this
    case hn => omega
    case hb => exact hb2.size
    intro A' c' w3 ho3 hg3
    have hb3 := hb2.grown hg3 hb2.size (fun k hk => (OR.block HO.out k hk).1)
    replace ho3 : OC w3 w.heap.size A' l.length c' l := by simpa using ho3
    have hs3 := hb3.size
    clear hb2 hg3
    go_wp2_with fail
    refine (sDeadPlaces_c A' c' l w3 (OC.rd ho3) HP.out).mono ?_
    rintro e w4 ⟨Ad, cd, rfl, hod, hb4⟩
    have hbW4 := below_trans hb3 (Nat.le_refl _) hb4
    have ho4 := OR.below ho3 hb4 (Nat.le_refl _)
    replace hod := OwI.rd hod
    clear ho3 hb3 hb4
    go_wp2
    go_loopw [3, 4] (fun xv dv wr => DDRel w l xv dv wr) (fun xv _ _ => match xv with | .slice _ n _ => n | _ => 0)
    case atStart => exact ⟨l, A', c', Ad, cd, rfl, rfl, ho4, hod, hbW4, HP, Lib.hid rfl, h40⟩
    case round =>
      clear ho4 hod hbW4 hs3
      obtain ⟨X, A1, c1, A2, c2, rfl, rfl, hoX, hrD, hb, HPX, HDX, hX40⟩ := hrel
      have hs := hb.size
      have hdl : (deadL X).length = (deadN X X.length).length := by simp [deadL]
      have hdn := deadN_len X X.length
      by_cases hd0 : deadN X X.length = []
      · have hz : (deadL X).length = 0 := by rw [hdl, hd0]; rfl
        have HE := Lib.hid (show dropDeadL l = X by rw [HD.out, HDX.out, dropD_done hd0])
        rw [hz]
        clear hd0 hz hdl hdn
        go_wp2
        go_ret
        rw [HE.out]
        exact RetC.of hoX hb
      · have hpos : 0 < (deadN X X.length).length := List.length_pos_iff.2 hd0
        have hkl := keep_lt hd0
        have HE := Lib.hid (dropD_more hd0)
        rw [hdl]
        generalize hdnn : (deadN X X.length).length = dn at *
        have HDN := Lib.hid hdnn
        have HKL := Lib.hid hkl
        clear hd0 hdnn hdl
        obtain ⟨wo, rfl⟩ : ∃ wo, wo = wr := ⟨_, rfl⟩
        have hoY := OC.empty_ wo wo.heap.size (Nat.le_refl _)
        have hbY := (Below.refl wo.heap.size wo).alloc (Nat.le_refl _) (.cells #[] 76)
        go_wp2_with fail
        go_loopw [5, 6, 7] (fun yv av kv wr => DIRel wo X yv av kv wr) (fun _ _ kv _ => X.length - (intOf kv).toNat)
        case atStart => exact ⟨0, _, 0, Nat.zero_le _, rfl, rfl, rfl, hoY, hbY⟩
        case round =>
          clear hoY hbY
          obtain ⟨k, Ay, cy, hk, rfl, rfl, rfl, hoy, hby⟩ := hrel
          have hsy := hby.size
          by_cases hlt : k < X.length
          · obtain ⟨by1, by2⟩ := deadN_next hlt
            obtain ⟨b, off, x, e1, hbB, hx, d0, d1, d2, d3⟩ := ((OC.rd hoX).below hby).at_ hlt
            subst e1
            have hcd := cdAt_get hx
            have HX := Lib.hid hx
            have HSD := Lib.hid (deadN_succ X k)
            have HSK := Lib.hid (keepN_succ X k)
            have hkn := keepN_len X k
            have hdk : (deadN X k).length ≤ dn := by
              obtain ⟨r, e, _⟩ := deadN_pre X k X.length hk
              have := congrArg List.length e
              rw [List.length_append, HDN.out] at this
              omega
            have hdL : (deadL X).length = dn := by rw [show (deadL X).length = (deadN X X.length).length by simp [deadL], HDN.out]
            have HDL := Lib.hid hdL
            clear hx hdL
            cases hb0 : deadB X k with
            | true =>
              have h1 := by1 hb0
              have hat : (deadN X k).length < dn := by rw [← HDN.out]; exact (List.getElem?_eq_some_iff.1 h1).1
              have hI : (deadL X)[(deadN X k).length]? = some (k : Int) := by unfold deadL; rw [List.getElem?_map, h1]; rfl
              obtain ⟨b2, off2, v2, rfl, -, hv2, dd⟩ := (hrD.below hby).at_ (show (deadN X k).length < (deadL X).length by rw [HDL.out]; exact hat)
              rw [hI] at hv2
              injection hv2 with hv2
              subst hv2
              have hatI : (((deadN X k).length : Nat) : Int) < (dn : Int) := by omega
              have hSK := Lib.hid (show keepN X (k + 1) = keepN X k by rw [HSK.out, hb0]; simp)
              have hSD := Lib.hid (show (deadN X (k + 1)).length = (deadN X k).length + 1 by rw [HSD.out, hb0]; simp)
              clear hcd hb0 by1 by2 h1 hI
              go_wp2
              go_roundw
              case rel => exact ⟨k + 1, Ay, cy, by omega, by go_num, by rw [hSD.out]; go_num, by rw [hSK.out], by rw [hSK.out]; exact hoy, hby⟩
              case measure => simp [intOf]; omega
            | false =>
              by_cases hat : (deadN X k).length < dn
              · have hlt2 : (deadN X k).length < (deadN X X.length).length := by rw [HDN.out]; exact hat
                have h1 : (deadN X X.length)[(deadN X k).length]? = some ((deadN X X.length)[(deadN X k).length]) := List.getElem?_eq_getElem hlt2
                generalize (deadN X X.length)[(deadN X k).length] = j at h1
                have hjk := by2 hb0 j h1
                have hI : (deadL X)[(deadN X k).length]? = some (j : Int) := by unfold deadL; rw [List.getElem?_map, h1]; rfl
                obtain ⟨b2, off2, v2, rfl, -, hv2, dd⟩ := (hrD.below hby).at_ (show (deadN X k).length < (deadL X).length by rw [HDL.out]; exact hat)
                rw [hI] at hv2
                injection hv2 with hv2
                subst hv2
                have hatI : (((deadN X k).length : Nat) : Int) < (dn : Int) := by omega
                have hne : ((j : Int) == (k : Int)) = false := by rw [beq_eq_false_iff_ne]; omega
                clear h1 hI hjk hlt2
                have HOy := Lib.hid (OR.alloc hoy (.cells #[.int .i64 x.op, .int .i64 x.a, .int .i64 x.b, .int .i64 x.c] 76))
                have hSK := Lib.hid (show keepN X (k + 1) = keepN X k ++ [x] by rw [HSK.out, hb0, hcd]; rfl)
                have hSD := Lib.hid (show deadN X (k + 1) = deadN X k by rw [HSD.out, hb0]; simp)
                have hlen : (keepN X (k + 1)).length = (keepN X k).length + 1 := by rw [hSK.out]; simp
                have hkl1 : (keepN X k).length ≤ 40 := by omega
                clear hcd hb0 by1 by2
                go_wp2_with (at_builtin; refine app_code rfl _ _ rfl wo.heap.size Ay _ cy _ HOy.out rfl x wr.heap.size 1 rfl ?h0 ?h1 ?h2 ?h3 ?hn ?hb ?_)
                first | (case h0 => simp [go_sem]) | skip
                first | (case h1 => simp [go_sem]) | skip
                first | (case h2 => simp [go_sem]) | skip
                first | (case h3 => simp [go_sem]) | skip
                case hn => omega
                case hb => first | omega | (simp; omega)
                intro A' c' w5 ho5 hg5
                have hb5 := below_app hby hsy hoy (Nat.le_refl _) hg5
                go_wp2
                go_roundw
                case rel => exact ⟨k + 1, A', c', by omega, by go_num, by rw [hSD.out], by rw [hlen], by rw [hlen, hSK.out]; exact ho5, hb5⟩
                case measure => simp [intOf]; omega
              · have hatI : ¬ (((deadN X k).length : Nat) : Int) < (dn : Int) := by omega
                have HOy := Lib.hid (OR.alloc hoy (.cells #[.int .i64 x.op, .int .i64 x.a, .int .i64 x.b, .int .i64 x.c] 76))
                have hSK := Lib.hid (show keepN X (k + 1) = keepN X k ++ [x] by rw [HSK.out, hb0, hcd]; rfl)
                have hSD := Lib.hid (show deadN X (k + 1) = deadN X k by rw [HSD.out, hb0]; simp)
                have hlen : (keepN X (k + 1)).length = (keepN X k).length + 1 := by rw [hSK.out]; simp
                have hkl1 : (keepN X k).length ≤ 40 := by omega
                clear hcd hb0 by1 by2
                go_wp2_with (at_builtin; refine app_code rfl _ _ rfl wo.heap.size Ay _ cy _ HOy.out rfl x wr.heap.size 1 rfl ?h0 ?h1 ?h2 ?h3 ?hn ?hb ?_)
                first | (case h0 => simp [go_sem]) | skip
                first | (case h1 => simp [go_sem]) | skip
                first | (case h2 => simp [go_sem]) | skip
                first | (case h3 => simp [go_sem]) | skip
                case hn => omega
                case hb => first | omega | (simp; omega)
                intro A' c' w5 ho5 hg5
                have hb5 := below_app hby hsy hoy (Nat.le_refl _) hg5
                go_wp2
                go_roundw
                case rel => exact ⟨k + 1, A', c', by omega, by go_num, by rw [hSD.out], by rw [hlen], by rw [hlen, hSK.out]; exact ho5, hb5⟩
                case measure => simp [intOf]; omega
          · obtain rfl : k = X.length := by omega
            have hkp := Lib.hid (keep_ok HPX.out)
            have hbx := below_trans hb (Nat.le_refl _) hby
            go_wp2_with fail
            refine (sDeadPlaces_c Ay cy (keepN X X.length) wr (OC.rd hoy) hkp.out).mono ?_
            rintro e w6 ⟨A6, c6, rfl, hod6, hb6⟩
            have hb7 := below_trans hbx (Nat.le_refl _) hb6
            have ho7 := OR.below hoy hb6 (Nat.le_refl _)
            go_wp2
            go_roundw
            case rel => exact ⟨keepN X X.length, Ay, cy, A6, c6, rfl, rfl, OR.mono ho7 hs, OwI.rd hod6, hb7, hkp, Lib.hid (by rw [HDX.out, HE.out]), by have := HKL.out; omega⟩
            case measure => simp; exact HKL.out


/-- Loops are not divided. -/
theorem loop_else {l : List Cd} (b : Blk) : ∀ (d p : Nat) (rest : List Cd), b.ok d → l.drop p = b.flat ++ rest → ∀ k, p ≤ k → k < p + b.flat.length → (cdAt l k).op = 13 → (endOf l k).2 = -1 := by
  induction b with
  | nil => intro d p rest _ _ k h1 h2; simp [Blk.flat] at h2; omega
  | op x r ih =>
    intro d p rest ⟨_, _, h10, hr⟩ h k h1 h2 ho
    obtain ⟨e1, e2, _⟩ := drop_cons (show l.drop p = x :: (r.flat ++ rest) from h)
    by_cases e : k = p
    · subst e; rw [cdAt_get e1] at ho; omega
    · exact ih d (p + 1) rest hr e2 k (by omega) (by simp [Blk.flat] at h2; omega) ho
  | iff a t r iht ihr =>
    intro d p rest ⟨_, _, ht, hr⟩ h k h1 h2 ho
    have h' : l.drop p = cIf a :: (t.flat ++ cEnd :: (r.flat ++ rest)) := by rw [h]; simp [Blk.flat]
    obtain ⟨_, g2, g3⟩ := end_iff ht h'
    simp only [Blk.flat, List.length_cons, List.length_append] at h2
    by_cases e : k = p
    · subst e; rw [cdAt_get (drop_cons h').1] at ho; simp [cIf] at ho
    · by_cases e2 : k < p + 1 + t.flat.length
      · exact iht _ _ _ ht g2 k (by omega) e2 ho
      · by_cases e3 : k = p + 1 + t.flat.length
        · subst e3; rw [cdAt_get (drop_cons (drop_skip g2)).1] at ho; simp [cEnd] at ho
        · exact ihr d _ _ hr g3 k (by omega) (by omega) ho
  | ife a t e r iht ihe ihr =>
    intro d p rest ⟨_, _, ht, he, hr⟩ h k h1 h2 ho
    have h' : l.drop p = cIf a :: (t.flat ++ cElse :: (e.flat ++ cEnd :: (r.flat ++ rest))) := by rw [h]; simp [Blk.flat]
    obtain ⟨_, g2, g3, g4⟩ := end_ife ht he h'
    simp only [Blk.flat, List.length_cons, List.length_append] at h2
    by_cases e0 : k = p
    · subst e0; rw [cdAt_get (drop_cons h').1] at ho; simp [cIf] at ho
    · by_cases e2 : k < p + 1 + t.flat.length
      · exact iht _ _ _ ht g2 k (by omega) e2 ho
      · by_cases e3 : k = p + 1 + t.flat.length
        · subst e3; rw [cdAt_get (drop_cons (drop_skip g2)).1] at ho; simp [cElse] at ho
        · by_cases e4 : k < p + t.flat.length + 2 + e.flat.length
          · exact ihe _ _ _ he g3 k (by omega) e4 ho
          · by_cases e5 : k = p + t.flat.length + 2 + e.flat.length
            · subst e5; rw [cdAt_get (drop_cons (drop_skip g3)).1] at ho; simp [cEnd] at ho
            · exact ihr d _ _ hr g4 k (by omega) (by omega) ho
  | loop a c t r iht ihr =>
    intro d p rest ⟨_, _, _, ht, hr⟩ h k h1 h2 ho
    have h' : l.drop p = cLoop a c :: (t.flat ++ cEnd :: (r.flat ++ rest)) := by rw [h]; simp [Blk.flat]
    obtain ⟨g1, g2, g3⟩ := end_iff ht h'
    simp only [Blk.flat, List.length_cons, List.length_append] at h2
    by_cases e : k = p
    · subst e; rw [g1]
    · by_cases e2 : k < p + 1 + t.flat.length
      · exact iht _ _ _ ht g2 k (by omega) e2 ho
      · by_cases e3 : k = p + 1 + t.flat.length
        · subst e3; rw [cdAt_get (drop_cons (drop_skip g2)).1] at ho; simp [cEnd] at ho
        · exact ihr d _ _ hr g3 k (by omega) (by omega) ho
theorem loop_elseAt {l : List Cd} (hp : pv l = true) {k : Nat} (hk : k < l.length) (ho : (cdAt l k).op = 13) : elseAt l k = -1 := by
  obtain ⟨_, b, hb, he⟩ := pv_tree.1 hp
  exact loop_else b 3 0 [] hb (by simp [he]) k (Nat.zero_le _) (by rw [he]; omega) ho

/-- A table of blocks. -/
structure BK (w : World) (B : Nat) (l : List Cd) (ob : Nat) (ga : Nat → Nat) : Prop where
  own : OR w B 139 1 (some ⟨ob, 0, none⟩) l.length l.length (ownRow l ga l.length)
  bks : ∀ p, p < l.length → opB (cdAt l p) = true → w.heap[ga p]? = some (.cells #[.int .i64 p, .int .i64 (endOf l p).2, .int .i64 (endOf l p).1] 141 (0, 0))
theorem BK.of {w w' : World} {l : List Cd} {ga : Nat → Nat} {oth en : Nat → Int} {As : Option Addr} {cs : Nat} (hW : WInv w l l.length [] ga oth en As cs w') (hP : PInv l l.length [] oth en) : BK w' w.heap.size l (w.heap.size + 1) ga :=
  ⟨hW.own, fun p hp ho => by
    have hc := hP.clo p hp ho (by simp)
    rw [hc]
    exact (hW.blk p hp ho).2⟩
theorem BK.below {w w' : World} {B : Nat} {l : List Cd} {ob : Nat} {ga : Nat → Nat} (h : BK w B l ob ga) (hb : Below w.heap.size w w') : BK w' B l ob ga :=
  ⟨h.own.below hb (Nat.le_refl _), fun p hp ho => (hb.block _ (lt_of_block (h.bks p hp ho))).trans (h.bks p hp ho)⟩
theorem ownRow_shut {l : List Cd} {ga : Nat → Nat} {q : Nat} {x : Cd} (hx : l[q]? = some x) (h : x.op = 12 ∨ x.op = 14) : (ownRow l ga l.length)[q]? = some (.pointer (some ⟨ga (aroundN l q), 0, none⟩)) := by
  have hq := (List.getElem?_eq_some_iff.1 hx).1
  have e1 : opB x = false := by simp [opB]; omega
  have e2 : (x.op == 12 || x.op == 14) = true := by rcases h with h | h <;> simp [h]
  rw [ownRow_get _ _ _ _ hq, if_pos hq]
  simp only [ownV, ownP, cdAt_get hx, e1, e2]
  rfl
theorem ownRow_open' {l : List Cd} {ga : Nat → Nat} {q : Nat} {x : Cd} (hx : l[q]? = some x) (ho : opB x = true) : (ownRow l ga l.length)[q]? = some (.pointer (some ⟨ga q, 0, none⟩)) := by
  have hq := (List.getElem?_eq_some_iff.1 hx).1
  rw [ownRow_get _ _ _ _ hq, if_pos hq]
  simp [ownV, ownP, cdAt_get hx, ho, ptrV]
theorem ownRow_none {l : List Cd} {ga : Nat → Nat} {q : Nat} {x : Cd} (hx : l[q]? = some x) (e1 : opB x = false) (e2 : x.op ≠ 12) (e3 : x.op ≠ 14) : (ownRow l ga l.length)[q]? = some (.pointer none) := by
  have hq := (List.getElem?_eq_some_iff.1 hx).1
  rw [ownRow_get _ _ _ _ hq, if_pos hq]
  simp [ownV, ownP, cdAt_get hx, e1, e2, e3]

/-- The successors of a place are returned. -/
def RetS (w : World) (l : List Cd) (k : Nat) (e : Ending) (w' : World) : Prop :=
  ∃ A c, e = .returned (.slice A (succI l k).length c) ∧ OI w' w.heap.size A (succI l k).length c (succI l k) ∧ Below w.heap.size w w'
theorem RetS.one {w w' : World} {l : List Cd} {k : Nat} {x : Int} (h : succI l k = [x]) (hb : Below w.heap.size w w') : RetS w l k (.returned (.slice (some ⟨w'.heap.size, 0, none⟩) 1 1)) (w'.alloc (.cells #[.int .i64 x] 3)) :=
  ⟨_, 1, by rw [h]; rfl, by rw [h]; exact int_lit w' _ hb.size x, hb.alloc hb.size _⟩
theorem RetS.two {w w' : World} {l : List Cd} {k : Nat} {x y : Int} (h : succI l k = [x, y]) (hb : Below w.heap.size w w') : RetS w l k (.returned (.slice (some ⟨w'.heap.size, 0, none⟩) 2 2)) (w'.alloc (.cells #[.int .i64 x, .int .i64 y] 3)) :=
  ⟨_, 2, by rw [h]; rfl, by rw [h]; exact int_lit2 w' _ hb.size x y, hb.alloc hb.size _⟩

set_option maxRecDepth 100000 in
set_option maxHeartbeats 8000000 in
theorem successors_c (A : Option Addr) (c : Nat) (l : List Cd) (k B ob : Nat) (ga : Nat → Nat) (w : World) (hA : RdC w w.heap.size A l) (hp : pv l = true) (hk : k < l.length) (hB : BK w B l ob ga) :
    Calls Tryz.prog 150 #[.slice A l.length c, .slice (some ⟨ob, 0, none⟩) l.length l.length, .int .i64 k] w (RetS w l k) := by
  have h40 := (pv_iff.1 hp).1
  obtain ⟨b, off, x, rfl, hbB, hx, d0, d1, d2, d3⟩ := hA.at_ hk
  have hcd := cdAt_get hx
  have hop : x.op = opAt l k := (opAt_get hx).symm
  have HI := Lib.hid (succI_succ hk)
  have hkI : (k : Int) < (l.length : Int) := by omega
  have q5 : IntKind.i64.wrap ((k : Int) + 1) = (k : Int) + 1 := IntWalk.i64_in _ (by omega)
  have HX := Lib.hid hx
  clear d1 d2 d3
  by_cases hpl : opB x = false ∧ x.op ≠ 12 ∧ x.op ≠ 14
  · obtain ⟨p1, p2, p3⟩ := hpl
    have p4 : x.op ≠ 11 ∧ x.op ≠ 13 := by simpa [opB] using p1
    have e11 : (x.op == 11) = false := beq_eq_false_iff_ne.2 p4.1
    have e13 : (x.op == 13) = false := beq_eq_false_iff_ne.2 p4.2
    have e12 : (x.op == 12) = false := beq_eq_false_iff_ne.2 p2
    have e14 : (x.op == 14) = false := beq_eq_false_iff_ne.2 p3
    have HS := Lib.hid (show succI l k = [(k : Int) + 1] by rw [HI.out, ← hop, e11, e12, e13, e14]; rfl)
    have o0 := (OR.at0 hB.own).1 k _ (ownRow_none hx p1 p2 p3)
    clear hop hx hcd p1 p2 p3 p4
    go_enter Tryz.func150, Tryz.ntmps150
    go_wp2
    go_ret
    exact RetS.one HS.out (Below.refl _ _)
  · have hop3 : x.op = 11 ∨ x.op = 13 ∨ x.op = 12 ∨ x.op = 14 := by
      simp [opB] at hpl
      omega
    rcases hop3 with h11 | h13 | h12 | h14
    · have e11 : (x.op == 11) = true := beq_iff_eq.2 h11
      have e12 : (x.op == 12) = false := by rw [h11]; rfl
      have hbo : opB x = true := by simp [opB, h11]
      have HS := Lib.hid (show succI l k = if overN l k = k + 1 then [((k : Int) + 1)] else [((k : Int) + 1), (overN l k : Int)] by rw [HI.out, ← hop, h11]; rfl)
      obtain ⟨m1, m2, m3⟩ := pEnd_bound hp hx hbo
      have o0 := (OR.at0 hB.own).1 k _ (ownRow_open' hx hbo)
      have hb := hB.bks k hk (by rw [hcd]; exact hbo)
      have b1 : w.cell? ⟨ga k, 1, none⟩ = some (.int .i64 (elseAt l k)) := cell_of_heap hb 1
      have b2 : w.cell? ⟨ga k, 2, none⟩ = some (.int .i64 (pEnd l k)) := by rw [← m1]; exact cell_of_heap hb 2
      have hov : overN l k = if 0 ≤ elseAt l k then (elseAt l k).toNat + 1 else pEnd l k + 1 := rfl
      have hel2 := elseAt_lt hk
      generalize elseAt l k = eo at *
      generalize pEnd l k = m at *
      obtain ⟨t, ht, htl⟩ : ∃ t : Nat, overN l k = t ∧ t ≤ l.length := ⟨_, rfl, overN_le hp hx hbo⟩
      rw [ht] at HS hov
      have q6 : IntKind.i64.wrap ((m : Int) + 1) = (m : Int) + 1 := IntWalk.i64_in _ (by omega)
      clear hop hx hcd hb m1 h11 hpl ht
      rcases hel2 with rfl | ⟨j, rfl, j1, j2⟩
      · obtain rfl : t = m + 1 := by simpa using hov
        clear hov
        have hne : (((m : Int) + 1) == ((k : Int) + 1)) = false := by rw [beq_eq_false_iff_ne]; omega
        have HS2 := Lib.hid (show succI l k = [((k : Int) + 1), (m : Int) + 1] by rw [HS.out, if_neg (by omega)]; simp)
        clear HS
        go_enter Tryz.func150, Tryz.ntmps150
        go_wp2
        go_ret
        exact RetS.two HS2.out (Below.refl _ _)
      · obtain rfl : t = j + 1 := by simpa using hov
        have q7 : IntKind.i64.wrap ((j : Int) + 1) = (j : Int) + 1 := IntWalk.i64_in _ (by omega)
        have q8 : (0 : Int) ≤ (j : Int) := by omega
        clear hov
        have hne : (((j : Int) + 1) == ((k : Int) + 1)) = false := by rw [beq_eq_false_iff_ne]; omega
        have HS2 := Lib.hid (show succI l k = [((k : Int) + 1), (j : Int) + 1] by rw [HS.out, if_neg (by omega)]; simp)
        clear HS
        go_enter Tryz.func150, Tryz.ntmps150
        go_wp2
        go_ret
        exact RetS.two HS2.out (Below.refl _ _)
    · have e13 : (x.op == 13) = true := beq_iff_eq.2 h13
      have e11 : (x.op == 11) = false := by rw [h13]; rfl
      have e12 : (x.op == 12) = false := by rw [h13]; rfl
      have hbo : opB x = true := by simp [opB, h13]
      have HS := Lib.hid (show succI l k = if overN l k = k + 1 then [((k : Int) + 1)] else [((k : Int) + 1), (overN l k : Int)] by rw [HI.out, ← hop, h13]; rfl)
      obtain ⟨m1, m2, m3⟩ := pEnd_bound hp hx hbo
      have o0 := (OR.at0 hB.own).1 k _ (ownRow_open' hx hbo)
      have hb := hB.bks k hk (by rw [hcd]; exact hbo)
      have b2 : w.cell? ⟨ga k, 2, none⟩ = some (.int .i64 (pEnd l k)) := by rw [← m1]; exact cell_of_heap hb 2
      have hel := loop_elseAt hp hk (by rw [hcd]; exact h13)
      have hov : overN l k = pEnd l k + 1 := by
        unfold overN
        rw [hel]; rfl
      rw [hov] at HS
      generalize pEnd l k = m at *
      have q6 : IntKind.i64.wrap ((m : Int) + 1) = (m : Int) + 1 := IntWalk.i64_in _ (by omega)
      have hne : (((m : Int) + 1) == ((k : Int) + 1)) = false := by rw [beq_eq_false_iff_ne]; omega
      have HS2 := Lib.hid (show succI l k = [((k : Int) + 1), (m : Int) + 1] by rw [HS.out, if_neg (by omega)]; simp)
      clear hop hx hcd hb m1 h13 hpl hel hov HS
      go_enter Tryz.func150, Tryz.ntmps150
      go_wp2
      go_ret
      exact RetS.two HS2.out (Below.refl _ _)
    · have e12 : (x.op == 12) = true := beq_iff_eq.2 h12
      obtain ⟨a1, a2, a3⟩ := around_in hp hx (.inl h12)
      have o0 := (OR.at0 hB.own).1 k _ (ownRow_shut (ga := ga) hx (.inl h12))
      have HS := Lib.hid (show succI l k = [((endN l (aroundN l k) : Int) + 1)] by rw [HI.out, ← hop, h12]; rfl)
      generalize aroundN l k = r at *
      have hr : r < l.length := by omega
      have hxr := cdAt_get' hr
      obtain ⟨m1, m2, m3⟩ := pEnd_bound hp hxr a3
      have hb := hB.bks r hr a3
      have b2 : w.cell? ⟨ga r, 2, none⟩ = some (.int .i64 (pEnd l r)) := by rw [← m1]; exact cell_of_heap hb 2
      have HS2 := Lib.hid (show succI l k = [((pEnd l r : Int) + 1)] from HS.out)
      generalize pEnd l r = m at *
      have q6 : IntKind.i64.wrap ((m : Int) + 1) = (m : Int) + 1 := IntWalk.i64_in _ (by omega)
      clear hop hx hcd hb m1 h12 hpl hxr HS a1
      go_enter Tryz.func150, Tryz.ntmps150
      go_wp2
      go_ret
      exact RetS.one HS2.out (Below.refl _ _)
    · have e14 : (x.op == 14) = true := beq_iff_eq.2 h14
      have e11 : (x.op == 11) = false := by rw [h14]; rfl
      have e12 : (x.op == 12) = false := by rw [h14]; rfl
      have e13 : (x.op == 13) = false := by rw [h14]; rfl
      obtain ⟨a1, a2, a3⟩ := around_in hp hx (.inr h14)
      have o0 := (OR.at0 hB.own).1 k _ (ownRow_shut (ga := ga) hx (.inr h14))
      have HS0 := Lib.hid (show succI l k = (if opAt l (aroundN l k) == 13 then [((aroundN l k : Int) + 1), ((k : Int) + 1)] else [((k : Int) + 1)]) by rw [HI.out, ← hop, h14]; rfl)
      generalize aroundN l k = r at *
      have hr : r < l.length := by omega
      have hxr := cdAt_get' hr
      have hopr := cdAt_op l r
      have hb := hB.bks r hr a3
      have b0 : w.cell? ⟨ga r, 0, none⟩ = some (.int .i64 r) := cell_of_heap hb 0
      generalize cdAt l r = y at *
      obtain ⟨b2, off2, y2, e2, -, hy2, u0, -, -, -⟩ := hA.at_ hr
      injection e2 with e2
      injection e2 with e2 e3
      subst e2 e3
      rw [hxr] at hy2
      injection hy2 with hy2
      subst hy2
      rw [← hopr] at HS0
      have q6 : IntKind.i64.wrap ((r : Int) + 1) = (r : Int) + 1 := IntWalk.i64_in _ (by omega)
      have q7 : (r : Int) < (l.length : Int) := by omega
      have hy3 : y.op = 11 ∨ y.op = 13 := by simpa [opB] using a3
      clear hop hx hcd hb h14 hpl hxr a1 hopr
      rcases hy3 with hy | hy
      · have ey : (y.op == 11) = true := beq_iff_eq.2 hy
        have HS := Lib.hid (show succI l k = [((k : Int) + 1)] by rw [HS0.out, hy]; rfl)
        clear hy a3
        go_enter Tryz.func150, Tryz.ntmps150
        go_wp2
        go_ret
        exact RetS.one HS.out (Below.refl _ _)
      · have ey : (y.op == 11) = false := by rw [hy]; rfl
        have HS := Lib.hid (show succI l k = [((r : Int) + 1), ((k : Int) + 1)] by rw [HS0.out, hy]; rfl)
        clear hy a3
        go_enter Tryz.func150, Tryz.ntmps150
        go_wp2
        go_ret
        exact RetS.two HS.out (Below.refl _ _)

theorem make_rows (n : Nat) (hn : n ≤ 1000000000000) (w : World) :
    (Instr.makeSlice 25 (.int .i64 (n : Int)) (.int .i64 (n : Int))).run Tryz.prog w = .ok (.slice (some ⟨w.heap.size, 0, none⟩) n n) (w.alloc (.cells (zeroRow (.slice none 0 0) n) 24)) := by
  obtain ⟨i0, hi, hz0, hz1, hz2⟩ := info_parts infoRows
  have := run_make_rowN (P := Tryz.prog) 25 24 i0 _ Tryz.underlying25 hi hz0 .i64 .i64 n n (Nat.le_refl _) (by rw [hz2]; omega) (by omega) w
  rw [hz1, Nat.mul_one] at this
  exact this

/-- A graph whose first k rows are there. -/
def GPart (w : World) (base gb : Nat) (l : List Cd) (k : Nat) : Prop :=
  ∃ vs, OR w base 24 1 (some ⟨gb, 0, none⟩) (l.length + 1) (l.length + 1) vs ∧ (∀ j, j < k → ∃ A' c', vs[j]? = some (.slice A' (succI l j).length c') ∧ OI w base A' (succI l j).length c' (succI l j)) ∧ ∀ j, k ≤ j → j ≤ l.length → vs[j]? = some (.slice none 0 0)
theorem GPart.below {w w' : World} {base gb k : Nat} {l : List Cd} (h : GPart w base gb l k) (hb : Below w.heap.size w w') : GPart w' base gb l k := by
  obtain ⟨vs, h1, h2, h3⟩ := h
  refine ⟨vs, h1.below hb (Nat.le_refl _), fun j hj => ?_, h3⟩
  obtain ⟨A', c', e, hr⟩ := h2 j hj
  exact ⟨A', c', e, OR.below hr hb (Nat.le_refl _)⟩
theorem GPart.put {w : World} {base gb k : Nat} {l : List Cd} (h : GPart w base gb l k) (hk : k < l.length) {A' : Option Addr} {c' : Nat} (hr : OI w base A' (succI l k).length c' (succI l k)) : GPart (w.setCell ⟨gb, k, none⟩ (.slice A' (succI l k).length c')) base gb l (k + 1) := by
  obtain ⟨vs, h1, h2, h3⟩ := h
  obtain ⟨cur, hblk⟩ := OR.heap_ h1
  have hl : vs.length = l.length + 1 := by have := h1.len; omega
  refine ⟨_, (OR.at0 h1).2.2 k _, fun j hj => ?_, fun j hj hj2 => ?_⟩
  · by_cases e : j = k
    · subst e
      exact ⟨A', c', by rw [List.getElem?_set, if_pos rfl, if_pos (by omega)], OR.set_other hr (p := ⟨gb, j, none⟩) (own_ne hr hblk (by decide)) _⟩
    · obtain ⟨B', d', e1, e2⟩ := h2 j (by omega)
      exact ⟨B', d', by rw [List.getElem?_set, if_neg (by omega)]; exact e1, OR.set_other e2 (p := ⟨gb, k, none⟩) (own_ne e2 hblk (by decide)) _⟩
  · rw [List.getElem?_set, if_neg (by omega)]
    exact h3 j (by omega) hj2
theorem GPart.done {w : World} {base gb : Nat} {l : List Cd} (h : GPart w base gb l l.length) : GOw w base (some ⟨gb, 0, none⟩) (l.length + 1) (l.length + 1) (succI l) (l.length + 1) := by
  obtain ⟨vs, h1, h2, h3⟩ := h
  refine ⟨vs, h1, fun j hj => ?_⟩
  by_cases e : j = l.length
  · subst e
    refine ⟨none, 0, ?_, ?_⟩
    · rw [succI_end]; exact h3 _ (Nat.le_refl _) (Nat.le_refl _)
    · rw [succI_end]; exact OI.nil_ _ _
  · exact h2 j (by omega)

def IGRel (w : World) (l : List Cd) (gb : Nat) (kv : Value) (wr : World) : Prop :=
  ∃ k : Nat, k ≤ l.length ∧ kv = .int .i64 k ∧ GPart wr w.heap.size gb l k ∧ Below w.heap.size w wr ∧ gb < wr.heap.size

set_option maxRecDepth 100000 in
set_option maxHeartbeats 8000000 in
theorem iGraphOf_c (A : Option Addr) (c : Nat) (l : List Cd) (w : World) (hA : RdC w w.heap.size A l) (hp : pv l = true) :
    Calls Tryz.prog 134 #[.slice A l.length c] w (RetG w l) := by
  have h40 := (pv_iff.1 hp).1
  have HP := Lib.hid hp
  have hmk : ∀ w : World, (Instr.makeSlice 25 (.int .i64 ((l.length : Int) + 1)) (.int .i64 ((l.length : Int) + 1))).run Tryz.prog w = .ok (.slice (some ⟨w.heap.size, 0, none⟩) (l.length + 1) (l.length + 1)) (w.alloc (.cells (zeroRow (.slice none 0 0) (l.length + 1)) 24)) := by
    have := make_rows (l.length + 1) (by omega)
    simpa using this
  clear hp
  go_enter Tryz.func134, Tryz.ntmps134
  go_wp2_with fail
  refine (blocks_c A c l w hA (by omega) (pv_all HP.out)).mono ?_
  rintro e w1 ⟨hb1, hcase⟩
  rcases hcase with ⟨_, rfl, ga, oth, en, As, cs, hW, hP⟩ | ⟨hp2, _⟩
  case inr => exact absurd (pv_iff.1 HP.out).2 hp2
  have hBK := BK.of hW hP
  have hs1 := hb1.size
  clear hW hP
  go_wp2_with fail
  have hG0 : GPart (w1.alloc (.cells (zeroRow (.slice none 0 0) (l.length + 1)) 24)) w.heap.size w1.heap.size l 0 := by
    have h := OR.lit w1 w.heap.size 24 1 (l.length + 1) (zeroRow (.slice none 0 0) (l.length + 1)) hs1 (by omega) (by rw [zeroRow_size]; omega)
    have e : (zeroRow (.slice none 0 0) (l.length + 1)).toList = List.replicate (l.length + 1) (.slice none 0 0) := toList_madeCells_one _ _
    rw [e] at h
    exact ⟨_, h, fun j hj => by omega, fun j _ hj => by rw [List.getElem?_replicate, if_pos (by omega)]⟩
  have hb2 := hb1.alloc hs1 (.cells (zeroRow (.slice none 0 0) (l.length + 1)) 24)
  have hX2 := Ext.alloc w1 (.cells (zeroRow (.slice none 0 0) (l.length + 1)) 24)
  have hBK2 := hBK.below hX2.below
  have hgb : w1.heap.size < (w1.alloc (.cells (zeroRow (.slice none 0 0) (l.length + 1)) 24)).heap.size := by simp
  clear hmk hBK hX2
  generalize w1.alloc (.cells (zeroRow (.slice none 0 0) (l.length + 1)) 24) = w2 at *
  have HBK := Lib.hid hBK2
  generalize w1.heap.size = gb at *
  clear hBK2
  go_loopw [20] (fun kv wr => IGRel w l gb kv wr ∧ BK wr w.heap.size l (w.heap.size + 1) ga) (fun kv _ => l.length - (intOf kv).toNat)
  case atStart => exact ⟨⟨0, Nat.zero_le _, rfl, hG0, hb2, hgb⟩, HBK.out⟩
  case round =>
    clear hG0 hb2 hgb
    obtain ⟨⟨k, hk, rfl, hG, hb, hgb⟩, hBK⟩ := hrel
    have hs := hb.size
    by_cases hlt : k < l.length
    · have hkI : (k : Int) < ((l.length + 1 : Nat) : Int) := by omega
      go_wp2_with fail
      refine (successors_c A c l k w.heap.size (w.heap.size + 1) ga wr ((hA.below hb).more hs) HP.out hlt hBK).mono ?_
      rintro e w3 ⟨A3, c3, rfl, ho3, hb3⟩
      have hG3 := hG.below hb3
      have hbW3 := below_trans hb (Nat.le_refl _) hb3
      have hBK3 := hBK.below hb3
      have HPUT := Lib.hid (hG3.put hlt (OR.mono ho3 hs))
      obtain ⟨vs, g1, g2, g3⟩ := hG3
      obtain ⟨cur, hblk⟩ := OR.heap_ g1
      have hgB := (OR.base_le g1).1
      have hBK4 : ∀ u, BK (w3.setCell ⟨gb, k, none⟩ u) w.heap.size l (w.heap.size + 1) ga := fun u =>
        ⟨OR.set_other hBK3.own (p := ⟨gb, k, none⟩) (own_ne hBK3.own hblk (by decide)) u, fun p hp ho => by
          have := hBK3.bks p hp ho
          rw [heap_set_other (type_ne this hblk (by decide))]
          exact this⟩
      have HBK4 := Lib.hid hBK4
      have cS := (OR.at0 g1).1 k _ (g3 k (Nat.le_refl _) (by omega))
      have f1 := (OR.at0 g1).2.1 k
      have hgb3 : gb < w3.heap.size := (OR.base_le g1).2
      clear g1 g2 g3 hblk hBK3 hBK4 hG hBK
      go_wp2
      go_roundw
      case rel => exact ⟨⟨k + 1, by omega, by go_num, HPUT.out, hbW3.setCell hgB _, by rw [size_set]; exact hgb3⟩, HBK4.out _⟩
      case measure => simp [intOf]; omega
    · obtain rfl : k = l.length := by omega
      go_wp2
      go_ret
      exact ⟨_, _, rfl, hG.done, hb⟩

end Go.Proofs.YtelbfeidpcojmaaGreat
