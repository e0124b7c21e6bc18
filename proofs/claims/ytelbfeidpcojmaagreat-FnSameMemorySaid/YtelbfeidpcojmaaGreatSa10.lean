/- Part 10 of what the claim needs. -/
import Derived.Test.YtelbfeidpcojmaaGreatSa2
import Derived.Test.YtelbfeidpcojmaaGreatSa3
import Derived.Test.YtelbfeidpcojmaaGreatSa4
import Derived.Test.YtelbfeidpcojmaaGreatSa7
import Derived.Test.YtelbfeidpcojmaaGreatSa9
import Derived.StillTailTactics
import Derived.Deep.MidRow
namespace Go.Proofs.YtelbfeidpcojmaaGreat
open Go.RowKit
set_option linter.unusedVariables false
set_option linter.unusedSimpArgs false

def LpRel (w : World) (L : Option Addr) (lcap m : Nat) (l : List Cd) (c : Cw) (mv pv_ kv : Value) (wr : World) : Prop :=
  ∃ t : Nat, t ≤ (lanesOf m).length ∧ kv = .int .i64 t ∧ mv = .int .i64 (maskL (amongL l c ((lanesOf m).take t))) ∧ pv_ = .int .i64 (leastP l c ((lanesOf m).take t)) ∧ Ext w wr

set_option maxRecDepth 100000 in
set_option maxHeartbeats 4000000 in
theorem least_c {O : Nat → Prop} {w : World} {B n mg cb : Nat} {A : Option Addr} {ca : Nat} {l : List Cd} {ob : Nat} {ga : Nat → Nat} {z : Gm} {c : Cw} (h : CS O w B n mg cb A ca l ob ga z c) (hp : pv l = true) (hn : n ≤ 8) {m : Nat} (hm : m < 65536) (hmn : ∀ k ∈ lanesOf m, k < n) :
    Calls Tryz.prog 59 #[.pointer (some ⟨mg, 0, none⟩), .pointer (some ⟨cb, 0, none⟩), .int .i64 m] w fun e w' => e = .returned (.tuple #[.int .i64 (maskL (amongL l c (lanesOf m))), .int .i64 (leastP l c (lanesOf m))]) ∧ Ext w w' := by
  obtain ⟨d0, -⟩ := h.mach.cells
  have hl40 := (pv_iff.1 hp).1
  have HS := Lib.hid h
  have HMN := Lib.hid hmn
  clear h hmn
  go_enter Tryz.func59, Tryz.ntmps59
  go_wp2_with fail
  go_quiet (fail)
  have hXq := Ext.drewN w nq
  have HX0 := Lib.hid hXq
  have HS0 := Lib.hid (HS.out.ext hXq)
  clear hXq d0
  generalize w.drewN nq = w0 at *
  go_wp2_with fail
  refine (lanesOf_c m w0 hm).mono ?_
  rintro e w1 ⟨L, lc, rfl, hL, hb⟩
  have HX1 := Lib.hid (HX0.out.trans (Ext.of_below hb))
  have HS1 := Lib.hid (HS0.out.ext (Ext.of_below hb))
  have HL := Lib.hid hL
  have hll := lanesOf_len m
  have hsz := hb.size
  clear hL hb HS0 HX0
  go_wp2_with fail
  go_loopw [8, 9, 21] (fun mv pv_ kv wr => LpRel w1 L lc m l c mv pv_ kv wr) (fun _ _ kv _ => (lanesOf m).length - (intOf kv).toNat)
  case atStart => exact ⟨0, Nat.zero_le _, rfl, rfl, by simp [leastP], Ext.refl _⟩
  case round =>
    obtain ⟨t, ht, rfl, rfl, rfl, hx⟩ := hrel
    have HX := Lib.hid hx
    have HSr := Lib.hid (HS1.out.ext hx)
    have HLr := Lib.hid (OR.ext HL.out hx)
    clear hx
    by_cases hlt : t < (lanesOf m).length
    · obtain ⟨k, hk⟩ : ∃ k, (lanesOf m)[t]? = some k := ⟨_, List.getElem?_eq_getElem hlt⟩
      have hkm : k ∈ lanesOf m := List.mem_of_getElem? hk
      have hkn := HMN.out k hkm
      have hk8 : k < 8 := (lanesOf_mem.1 hkm).1
      have hltI : (t : Int) < ((lanesOf m).length : Int) := by omega
      obtain ⟨gL, hLA, -, -, hLc, -, -⟩ := OR.at_ HLr.out (by omega)
      subst hLA
      have l0 := hLc t _ (by rw [List.getElem?_map, lanesI_get hk]; rfl)
      obtain ⟨c0, -⟩ := HSr.out.cells
      obtain ⟨-, e1, -, -⟩ := HSr.out.cm.cells hkn
      have hknI : (k : Int) < (n : Int) := by omega
      have htk : (lanesOf m).take (t + 1) = (lanesOf m).take t ++ [k] := by rw [List.take_add_one, hk]; rfl
      have HTK := Lib.hid htk
      have hpb := (leastP_le l c ((lanesOf m).take t)).1
      have hml : maskL (amongL l c ((lanesOf m).take t)) < 256 := maskL_lt (fun j hj => (lanesOf_mem.1 (List.mem_of_mem_take (among_sub hj).1)).1)
      have HLS := Lib.hid (fun a b => among_less (l := l) (c := c) (ks := (lanesOf m).take t) (k := k) a b)
      have HSM := Lib.hid (fun a b => among_same (l := l) (c := c) (ks := (lanesOf m).take t) (k := k) a b)
      have HMO := Lib.hid (fun a => among_more (l := l) (c := c) (ks := (lanesOf m).take t) (k := k) a)
      clear htk hLc hk
      generalize amongL l c ((lanesOf m).take t) = am at *
      generalize hlp : leastP l c ((lanesOf m).take t) = lp at *
      clear hlp
      generalize hks : (lanesOf m).take t = ks at *
      cases hg : goesL l (c.lane k) with
      | false =>
        have HG := Lib.hid hg
        have hmo := HMO.out (fun h => by rw [HG.out] at h; cases h)
        have HR := Lib.hid hmo
        go_wp2_with fail
        refine (goes_c HSr.out.mach HSr.out.cm HSr.out.ok hkn hp).mono ?_
        rintro e w2 ⟨rfl, hx2⟩
        rw [hg]
        have HX2 := Lib.hid (HX.out.trans hx2)
        clear hx2 hg hmo e1 c0 l0
        go_wp2
        go_roundw
        case rel => exact ⟨t + 1, by omega, by go_num, by rw [HTK.out, HR.out.2], by rw [HTK.out, HR.out.1], HX2.out⟩
        case measure => simp [intOf]; omega
      | true =>
        have HG := Lib.hid hg
        go_wp2_with fail
        refine (goes_c HSr.out.mach HSr.out.cm HSr.out.ok hkn hp).mono ?_
        rintro e w2 ⟨rfl, hx2⟩
        rw [hg]
        have e1' := hx2.cell e1
        have c0' := hx2.cell c0
        have HX2 := Lib.hid (HX.out.trans hx2)
        clear hx2 hg e1 c0 l0
        have hwp := wrap64_pow k (by omega)
        generalize hps : (c.lane k).pos = ps at *
        by_cases h1 : ps < lp
        · have h1I : (ps : Int) < (lp : Int) := by omega
          have HR := Lib.hid (HLS.out HG.out h1)
          go_wp2
          go_roundw
          case rel =>
            refine ⟨t + 1, by omega, by go_num, ?_, ?_, HX2.out⟩
            · rw [HTK.out, HR.out.2]
              first | (rw [hwp]; simp [maskL]) | simp [maskL]
            · rw [HTK.out, HR.out.1]
          case measure => simp [intOf]; omega
        · have h1I : ¬ ((ps : Int) < (lp : Int)) := by omega
          by_cases h2 : ps = lp
          · have h2I : ((ps : Int) == (lp : Int)) = true := by simp [h2]
            have HR := Lib.hid (HSM.out HG.out h2)
            have HOB := Lib.hid (or_bit (maskL am) k (by omega) (by omega))
            subst h2
            go_wp2
            go_roundw
            case rel =>
              refine ⟨t + 1, by omega, by go_num, ?_, ?_, HX2.out⟩
              · rw [HTK.out, HR.out.2, maskL_snoc]
                rw [show ((2 : Int) ^ k) = ((2 ^ k : Nat) : Int) by simp, ← hwp, HOB.out]
              · rw [HTK.out, HR.out.1]
            case measure => simp [intOf]; omega
          · have h2I : ((ps : Int) == (lp : Int)) = false := by simp; omega
            have HR := Lib.hid (HMO.out (fun _ => by omega))
            clear h2
            go_wp2
            go_roundw
            case rel => exact ⟨t + 1, by omega, by go_num, by rw [HTK.out, HR.out.2], by rw [HTK.out, HR.out.1], HX2.out⟩
            case measure => simp [intOf]; omega
    · obtain rfl : t = (lanesOf m).length := by omega
      rw [List.take_length] at *
      go_wp2
      go_ret2
      exact ⟨rfl, HX1.out.trans HX.out⟩

theorem cell_heap_eq {w w' : World} {b : Nat} (h : w'.heap[b]? = w.heap[b]?) (j : Nat) : w'.cell? ⟨b, j, none⟩ = w.cell? ⟨b, j, none⟩ := by simp [World.cell?, h]

def SaRel (O : Nat → Prop) (w : World) (B n mg cb : Nat) (A : Option Addr) (ca : Nat) (l : List Cd) (ob : Nat) (ga : Nat → Nat) (z : Gm) (c : Cw) (m : Nat) (L : Option Addr) (lcap : Nat) (kv : Value) (wr : World) : Prop :=
  ∃ (t : Nat) (z' : Gm), t ≤ (lanesOf m).length ∧ kv = .int .i64 t ∧ CS O wr B n mg cb A ca l ob ga z' (((lanesOf m).take t).foldl (stepIf l) c) ∧ SmG z' z ∧ StC O B w wr ∧ RdI wr wr.heap.size L (lanesI m) ∧ (((lanesOf m).take t).foldl (stepIf l) c).mem.length = c.mem.length

set_option maxRecDepth 100000 in
set_option maxHeartbeats 4000000 in
theorem stepAll_c {O : Nat → Prop} {w : World} {B n mg cb : Nat} {A : Option Addr} {ca : Nat} {l : List Cd} {ob : Nat} {ga : Nat → Nat} {z : Gm} {c : Cw} (h : CS O w B n mg cb A ca l ob ga z c) (hp : pv l = true) (hn : n ≤ 8) {m : Nat} (hm : m < 65536) (hmn : ∀ k ∈ lanesOf m, k < n) (hml : 1 ≤ c.mem.length ∧ c.mem.length ≤ 32) :
    Calls Tryz.prog 60 #[.pointer (some ⟨mg, 0, none⟩), .pointer (some ⟨cb, 0, none⟩), .int .i64 m] w fun e w' => e = .returned (.tuple #[]) ∧ ∃ z', CS O w' B n mg cb A ca l ob ga z' (passC l ((lanesOf m).foldl (stepIf l) c)) ∧ SmG z' z ∧ StC O B w w' := by
  have HS := Lib.hid h
  have HMN := Lib.hid hmn
  clear h hmn
  go_enter Tryz.func60, Tryz.ntmps60
  go_wp2_with fail
  refine (lanesOf_c m w hm).mono ?_
  rintro e w1 ⟨L, lc, rfl, hL, hb⟩
  have hX := Ext.of_below hb
  have hll := lanesOf_len m
  have hL2 : RdI w1 w1.heap.size L (lanesI m) := by
    have h1 := OR.reads hL
    rw [← lanesI_len] at h1
    exact h1
  -- what the row of the lanes is, is not turned
  obtain ⟨O', hO1, hC1, hOL⟩ : ∃ O' : Nat → Prop, (∀ q, O' q → O q ∨ w.heap.size ≤ q) ∧ CM O' w1 B n z c ∧ (0 < (lanesOf m).length → ∃ g, L = some ⟨g, 0, none⟩ ∧ ¬ O' g) := by
    by_cases h0 : 0 < (lanesOf m).length
    · obtain ⟨g, rfl, hg1, hg2, -⟩ := OR.at_ hL h0
      exact ⟨_, fun q hq => .inl hq.1, HS.out.cm.above hX hg1 hg2, fun _ => ⟨g, rfl, fun h => h.2 rfl⟩⟩
    · exact ⟨O, fun q hq => .inl hq, HS.out.cm.ext hX, fun h => absurd h h0⟩
  have hO2 : ∀ q, O' q → O q := fun q hq => by
    rcases hO1 q hq with h | h
    · exact h
    · exact HS.out.cm.of q h
  have HC1 := Lib.hid (show CS O' w1 B n mg cb A ca l ob ga z c from ⟨(HS.out.ext hX).mach, hC1, HS.out.ok, (HS.out.ext hX).blk, HS.out.cB, (HS.out.ext hX).hB⟩)
  have HOL := Lib.hid hOL
  have HO2 := Lib.hid hO2
  have HX1 := Lib.hid (StC.of_ext (O := O) (B := B) hX HS.out.hB)
  clear hL hb hX hO1 hC1 hOL hO2
  go_wp2_with fail
  go_loopw [11] (fun kv wr => SaRel O' w1 B n mg cb A ca l ob ga z c m L lc kv wr) (fun kv _ => (lanesOf m).length - (intOf kv).toNat)
  case atStart => exact ⟨0, z, Nat.zero_le _, rfl, HC1.out, SmG.refl _, StC.refl _ _, hL2, rfl⟩
  case round =>
    clear hL2
    obtain ⟨t, z', ht, rfl, hS, hz, hst, hLr, hme⟩ := hrel
    have HSr := Lib.hid hS
    have HZ := Lib.hid hz
    have HST := Lib.hid hst
    have HLR := Lib.hid hLr
    by_cases hlt : t < (lanesOf m).length
    · obtain ⟨k, hk⟩ : ∃ k, (lanesOf m)[t]? = some k := ⟨_, List.getElem?_eq_getElem hlt⟩
      have hkm : k ∈ lanesOf m := List.mem_of_getElem? hk
      have hkn := HMN.out k hkm
      have hknI : (k : Int) < (n : Int) := by omega
      have hltI : (t : Int) < ((lanesOf m).length : Int) := by omega
      obtain ⟨gL, oL, x, rfl, hgB, hx, l0⟩ := hLr.at_ (show t < (lanesI m).length by rw [lanesI_len]; exact hlt)
      obtain rfl : x = (k : Int) := by rw [lanesI_get hk] at hx; exact (Option.some.inj hx).symm
      obtain ⟨c0, c1⟩ := hS.cells
      have htk : (lanesOf m).take (t + 1) = (lanesOf m).take t ++ [k] := by rw [List.take_add_one, hk]; rfl
      have HTK := Lib.hid htk
      have HME := Lib.hid hme
      rw [hme] at c1
      clear hS hz hst hLr hk htk hx hme
      generalize hcc : ((lanesOf m).take t).foldl (stepIf l) c = cc at *
      have HCC := Lib.hid hcc
      clear hcc
      have hBr := HSr.out.hB
      go_wp2_with fail
      go_still_tail 12, (by kernel_rfl)
      go_wp2_with fail
      have hSd := HSr.out.ext (Ext.drew wr)
      refine (step_c hSd.mach hSd.cm hSd.ok hkn hn hp hSd.hB HME.out.symm hml).mono ?_
      rintro e w2 ⟨rfl, z2, hC2, hz2, hst2⟩
      have hok2 := stepIf_ok hp hn hSd.ok hkn
      have HS2 := Lib.hid (hSd.next hC2 hz2 hst2 hok2.1 hok2.2)
      have HST2 := Lib.hid (HST.out.trans ((StC.of_ext (O := O') (Ext.drew wr) hBr).trans hst2))
      have HM2 := Lib.hid (hok2.2.trans HME.out)
      have hL3 : RdI w2 w2.heap.size (some ⟨gL, oL, none⟩) (lanesI m) := by
        obtain ⟨g, hg, hng⟩ := HOL.out (by omega)
        injection hg with hg
        injection hg with hg _ _
        subst hg
        have hhe : w2.heap[gL]? = wr.heap[gL]? := hst2.off gL hgB hng
        refine ⟨HLR.out.1, fun hn0 => ?_⟩
        obtain ⟨b, off, e, hb, hc⟩ := HLR.out.2 hn0
        injection e with e
        injection e with e1 e2 _
        subst e1 e2
        exact ⟨_, _, rfl, Nat.lt_of_lt_of_le hgB hst2.size, fun j u hu => by rw [cell_heap_eq hhe]; exact hc j u hu⟩
      have HL3 := Lib.hid hL3
      have HZ2 := Lib.hid (hz2.trans HZ.out)
      clear hSd hC2 hz2 hst2 hok2 hL3 c0 c1 l0
      go_wp2
      go_roundw
      case rel => exact ⟨t + 1, z2, by omega, by go_num, by rw [HTK.out, List.foldl_append, HCC.out]; exact HS2.out, HZ2.out, HST2.out, HL3.out, by rw [HTK.out, List.foldl_append, HCC.out]; exact HM2.out⟩
      case measure => simp [intOf]; omega
    · obtain rfl : t = (lanesOf m).length := by omega
      clear hS hz hst hLr hme
      go_wp2_with fail
      refine (pass_c HSr.out hp hn).mono ?_
      rintro e w2 ⟨rfl, hP, hst2⟩
      rw [List.take_length] at hP
      have hP2 : CS O w2 B n mg cb A ca l ob ga z' (passC l ((lanesOf m).foldl (stepIf l) c)) := ⟨hP.mach, hP.cm.reO (HO2.out _ hP.cm.olb) (HO2.out _ hP.cm.omb) (fun k hk => HO2.out _ (hP.cm.oR k hk)) (fun k q hk hq => HO2.out _ (hP.cm.oT k q hk hq)) (fun q hq => HO2.out _ (hP.cm.of q hq)), hP.ok, hP.blk, hP.cB, hP.hB⟩
      have HP2 := Lib.hid hP2
      have HST2 := Lib.hid (HX1.out.trans ((HST.out.trans hst2).more HO2.out))
      clear hP hP2 hst2
      go_wp2
      go_end0
      exact ⟨rfl, z', HP2.out, HZ.out, HST2.out⟩


def IdxPost (l : List Int) (v i : Int) : Prop := (∃ k : Nat, i = (k : Int) ∧ k < l.length ∧ cN l k = v ∧ ∀ j, j < k → cN l j ≠ v) ∨ (i = -1 ∧ ∀ j, j < l.length → cN l j ≠ v)

set_option maxRecDepth 100000 in
set_option maxHeartbeats 2000000 in
theorem sliceIndex_c (A : Option Addr) (c : Nat) (l : List Int) (v : Int) (w : World) (hA : RdI w w.heap.size A l) (hl : l.length ≤ 1000000000) :
    Calls Tryz.prog 88 #[.slice A l.length c, .int .i64 v] w fun e w' => ∃ i : Int, e = .returned (.int .i64 i) ∧ IdxPost l v i ∧ w = w' := by
  go_enter Tryz.func88, Tryz.ntmps88
  go_wp2
  go_loop [8] (fun kv => ∃ k : Nat, k ≤ l.length ∧ kv = .int .i64 k ∧ Hid (∀ j, j < k → cN l j ≠ v)) (fun kv => l.length - (intOf kv).toNat)
  case atStart => exact ⟨0, Nat.zero_le _, rfl, Lib.hid (fun j hj => by omega)⟩
  case round =>
    obtain ⟨k, hk, rfl, HN⟩ := hrel
    by_cases hlt : k < l.length
    · obtain ⟨b, off, x, rfl, -, hx, dk⟩ := hA.at_ hlt
      have hxk : x = cN l k := by rw [cN_get hlt] at hx; injection hx with h; exact h.symm
      have HX := Lib.hid hxk
      have hkI : (k : Int) < (l.length : Int) := by omega
      clear hx hxk
      cases hv : v == x with
      | true =>
        have HV := Lib.hid hv
        go_wp2
        go_ret
        exact ⟨k, rfl, .inl ⟨k, rfl, hlt, by rw [← HX.out]; exact (beq_iff_eq.1 HV.out).symm, HN.out⟩, rfl⟩
      | false =>
        have HV := Lib.hid hv
        go_wp2
        go_round
        case rel =>
          refine ⟨k + 1, by omega, by go_num, Lib.hid fun j hj => ?_⟩
          by_cases e : j = k
          · subst e
            rw [← HX.out]
            exact fun h => by have := beq_eq_false_iff_ne.1 HV.out; exact this h.symm
          · exact HN.out j (by omega)
        case measure => simp [intOf]; omega
    · obtain rfl : k = l.length := by omega
      go_wp2
      go_ret
      exact ⟨-1, rfl, .inr ⟨rfl, HN.out⟩, rfl⟩

theorem idx_any {l : List Int} {v i : Int} (h : IdxPost l v i) : decide (0 ≤ i) = l.any (fun x => x == v) := by
  rcases h with ⟨k, rfl, hk, e, _⟩ | ⟨rfl, hne⟩
  · have : l.any (fun x => x == v) = true := List.any_eq_true.2 ⟨cN l k, List.mem_of_getElem? (cN_get hk), by rw [e]; simp⟩
    rw [this]; simp
  · have : l.any (fun x => x == v) = false := by
      rw [List.any_eq_false]
      intro x hx
      obtain ⟨k, hk⟩ := List.getElem?_of_mem hx
      have hkl := (List.getElem?_eq_some_iff.1 hk).1
      rw [cN_get hkl] at hk
      injection hk with hk
      have := hne k hkl
      simp; omega
    rw [this]; rfl

set_option maxRecDepth 100000 in
set_option maxHeartbeats 2000000 in
theorem sliceContains_c (A : Option Addr) (c : Nat) (l : List Int) (v : Int) (w : World) (hA : RdI w w.heap.size A l) (hl : l.length ≤ 1000000000) :
    Calls Tryz.prog 55 #[.slice A l.length c, .int .i64 v] w fun e w' => e = .returned (.bool (l.any fun x => x == v)) ∧ w = w' := by
  go_enter Tryz.func55, Tryz.ntmps55
  go_wp2_with fail
  refine (sliceIndex_c A c l v w hA hl).mono ?_
  rintro e w1 ⟨i, rfl, hi, rfl⟩
  have HI := Lib.hid (idx_any hi)
  clear hi
  go_wp2
  go_ret
  exact ⟨retb HI.out, rfl⟩


def laneV (z : Gm) (k : Nat) (s : Ln) : Value := .agg #[.slice (some ⟨z.R k, 0, none⟩) 4 (z.RC k), .int .i64 s.pos, .slice (adr (z.T k)) s.turns.length (z.TC k), .bool s.waits]

set_option maxRecDepth 100000 in
set_option maxHeartbeats 4000000 in
theorem isDoneP_c {w : World} {B mg q : Nat} {A : Option Addr} {ca p : Nat} {l : List Cd} {ob : Nat} {ga : Nat → Nat} (hm : MK w B mg A ca l ob ga) (e1 : w.cell? ⟨q, 1, none⟩ = some (.int .i64 p)) :
    Calls Tryz.prog 92 #[.pointer (some ⟨mg, 0, none⟩), .pointer (some ⟨q, 0, none⟩)] w fun e w' => e = .returned (.bool ((p : Int) == (l.length : Int))) ∧ Ext w w' := by
  obtain ⟨d0, d1⟩ := hm.cells
  go_enter Tryz.func92, Tryz.ntmps92
  go_wp2_with fail
  go_quiet (fail)
  go_wp2
  go_ret
  exact ⟨rfl, ⟨rfl, rfl, rfl, Nat.le_refl _, fun _ _ => rfl⟩⟩

set_option maxRecDepth 100000 in
set_option maxHeartbeats 4000000 in
theorem isOverF_c {w : World} {B mg b : Nat} {A : Option Addr} {ca k : Nat} {l : List Cd} {ob : Nat} {ga : Nat → Nat} {z : Gm} {s : Ln} (hm : MK w B mg A ca l ob ga) (hB : B ≤ w.heap.size) (bx : w.cell? ⟨b, 0, none⟩ = some (.pointer (some ⟨mg, 0, none⟩))) :
    Calls Tryz.prog 91 #[laneV z k s, .pointer (some ⟨b, 0, none⟩)] w fun e w' => e = .returned (.bool (!((s.pos : Int) == (l.length : Int)))) ∧ Ext w w' := by
  have hX := Ext.alloc w (.cells #[.slice (some ⟨z.R k, 0, none⟩) 4 (z.RC k), .int .i64 s.pos, .slice (adr (z.T k)) s.turns.length (z.TC k), .bool s.waits] 84)
  have hN := heap_alloc_new w (.cells #[.slice (some ⟨z.R k, 0, none⟩) 4 (z.RC k), .int .i64 s.pos, .slice (adr (z.T k)) s.turns.length (z.TC k), .bool s.waits] 84)
  have n1 := cell_of_heap hN 1
  have bx' := hX.cell bx
  have HM := Lib.hid (hm.ext hX hB)
  have HX := Lib.hid hX
  unfold laneV
  clear hm hX hN bx
  go_enter Tryz.func91, Tryz.ntmps91
  go_wp2_with fail
  generalize w.alloc (.cells #[.slice (some ⟨z.R k, 0, none⟩) 4 (z.RC k), .int .i64 s.pos, .slice (adr (z.T k)) s.turns.length (z.TC k), .bool s.waits] 84) = W at *
  go_wp2_with fail
  refine (isDoneP_c (p := s.pos) HM.out (by rw [n1]; rfl)).mono ?_
  rintro e w1 ⟨rfl, hx⟩
  have HX1 := Lib.hid (HX.out.trans hx)
  clear hx n1 bx'
  go_wp2
  go_ret
  exact ⟨rfl, HX1.out⟩

set_option maxRecDepth 100000 in
set_option maxHeartbeats 4000000 in
theorem isOverI_c {O : Nat → Prop} {w : World} {B n mg cb b : Nat} {A : Option Addr} {ca : Nat} {l : List Cd} {ob : Nat} {ga : Nat → Nat} {z : Gm} {c : Cw} (h : CS O w B n mg cb A ca l ob ga z c) (hn : n ≤ 8) (bx : w.cell? ⟨b, 0, none⟩ = some (.pointer (some ⟨mg, 0, none⟩))) :
    Calls Tryz.prog 121 #[.slice (some ⟨z.lb, 0, none⟩) n z.lc, .func (Fn.func 91) #[] #[.pointer (some ⟨b, 0, none⟩)]] w fun e w' => ∃ i : Int, e = .returned (.int .i64 i) ∧ (0 ≤ i ↔ ∃ k, k < n ∧ (c.lane k).pos ≠ l.length) ∧ Ext w w' := by
  have HS := Lib.hid h
  have HBX := Lib.hid bx
  clear h bx
  go_enter Tryz.func121, Tryz.ntmps121
  go_wp2
  go_loopw [8] (fun kv wr => ∃ k : Nat, k ≤ n ∧ kv = .int .i64 k ∧ Hid (∀ j, j < k → (c.lane j).pos = l.length) ∧ Ext w wr) (fun kv _ => n - (intOf kv).toNat)
  case atStart => exact ⟨0, Nat.zero_le _, rfl, Lib.hid (fun j hj => absurd hj (Nat.not_lt_zero _)), Ext.refl _⟩
  case round =>
    obtain ⟨k, hk, rfl, HN, hx⟩ := hrel
    have HX := Lib.hid hx
    have HSr := Lib.hid (HS.out.ext hx)
    have HBr := Lib.hid (hx.cell HBX.out)
    clear hx
    by_cases hlt : k < n
    · have hkI : (k : Int) < (n : Int) := by omega
      obtain ⟨e0, e1, e2, e3⟩ := HSr.out.cm.cells hlt
      go_wp2_with fail
      refine (isOverF_c (z := z) (k := k) (s := c.lane k) HSr.out.mach HSr.out.hB HBr.out).mono ?_
      rintro e w1 ⟨rfl, hx1⟩
      have HX1 := Lib.hid (HX.out.trans hx1)
      clear hx1 e0 e1 e2 e3
      by_cases hp : (c.lane k).pos = l.length
      · have hd : (((c.lane k).pos : Int) == (l.length : Int)) = true := by simp [hp]
        rw [hd]
        have HN2 := Lib.hid (show ∀ j, j < k + 1 → (c.lane j).pos = l.length from fun j hj => by
          by_cases e : j = k
          · rw [e]; exact hp
          · exact HN.out j (by omega))
        clear hp hd
        go_wp2
        go_roundw
        case rel => exact ⟨k + 1, by omega, by go_num, HN2, HX1.out⟩
        case measure => simp [intOf]; omega
      · have hd : (((c.lane k).pos : Int) == (l.length : Int)) = false := by simp; omega
        rw [hd]
        have HP := Lib.hid hp
        clear hp hd
        go_wp2
        go_ret
        exact ⟨k, rfl, ⟨fun _ => ⟨k, hlt, HP.out⟩, fun _ => by omega⟩, HX1.out⟩
    · obtain rfl : k = n := by omega
      go_wp2
      go_ret
      exact ⟨-1, rfl, ⟨fun h => by omega, fun ⟨j, hj, hne⟩ => absurd (HN.out j hj) hne⟩, HX.out⟩

set_option maxRecDepth 100000 in
set_option maxHeartbeats 4000000 in
theorem isOverC_c {O : Nat → Prop} {w : World} {B n mg cb b : Nat} {A : Option Addr} {ca : Nat} {l : List Cd} {ob : Nat} {ga : Nat → Nat} {z : Gm} {c : Cw} (h : CS O w B n mg cb A ca l ob ga z c) (hp : pv l = true) (hn : n ≤ 8) (bx : w.cell? ⟨b, 0, none⟩ = some (.pointer (some ⟨mg, 0, none⟩))) :
    Calls Tryz.prog 90 #[.slice (some ⟨z.lb, 0, none⟩) n z.lc, .func (Fn.func 91) #[] #[.pointer (some ⟨b, 0, none⟩)]] w fun e w' => e = .returned (.bool (!overC l c)) ∧ Ext w w' := by
  have HOV := Lib.hid (over_iff_pos h.ok hp)
  have HI := Lib.hid (isOverI_c h hn bx)
  clear h bx
  go_enter Tryz.func90, Tryz.ntmps90
  go_wp2_with fail
  refine (HI.out).mono ?_
  rintro e w1 ⟨i, rfl, hi, hx⟩
  have hd : decide (0 ≤ i) = !overC l c := by
    cases ho : overC l c with
    | true =>
      have h1 := HOV.out.1 ho
      simp only [Bool.not_true, decide_eq_false_iff_not]
      rw [hi]
      rintro ⟨k, hk, hne⟩
      exact hne (h1 k hk)
    | false =>
      simp only [Bool.not_false, decide_eq_true_eq]
      rw [hi]
      refine Classical.byContradiction fun hno => ?_
      have : overC l c = true := HOV.out.2 (fun k hk => Classical.byContradiction fun hne => hno ⟨k, hk, hne⟩)
      rw [ho] at this
      cases this
  have HD := Lib.hid hd
  have HX := Lib.hid hx
  clear hd hi hx
  go_wp2
  go_ret
  exact ⟨retb (by first | exact HD.out | (rw [← HD.out]; simp)), HX.out⟩

set_option maxRecDepth 100000 in
set_option maxHeartbeats 4000000 in
theorem isOver_c {O : Nat → Prop} {w : World} {B n mg cb : Nat} {A : Option Addr} {ca : Nat} {l : List Cd} {ob : Nat} {ga : Nat → Nat} {z : Gm} {c : Cw} (h : CS O w B n mg cb A ca l ob ga z c) (hp : pv l = true) (hn : n ≤ 8) :
    Calls Tryz.prog 58 #[.pointer (some ⟨mg, 0, none⟩), .pointer (some ⟨cb, 0, none⟩)] w fun e w' => e = .returned (.bool (overC l c)) ∧ Ext w w' := by
  have hX := Ext.alloc w (.cells #[.pointer (some ⟨mg, 0, none⟩)] 69)
  have hN := heap_alloc_new w (.cells #[.pointer (some ⟨mg, 0, none⟩)] 69)
  have HBX := Lib.hid ((cell_of_heap hN 0).trans rfl)
  have HX := Lib.hid hX
  have HS := Lib.hid (h.ext hX)
  have hmf : ∀ (fn : Fn) (first cap : Array Value) (w : World), (Instr.makeFunc fn first cap).run Tryz.prog w = .ok (.func fn first cap) w := fun _ _ _ _ => rfl
  obtain ⟨c0, -⟩ := h.cells
  have c0' := hX.cell c0
  clear h hX hN c0
  go_enter Tryz.func58, Tryz.ntmps58
  go_wp2_with fail
  refine (isOverC_c HS.out hp hn HBX.out).mono ?_
  rintro e w1 ⟨rfl, hx⟩
  have HX1 := Lib.hid (HX.out.trans hx)
  clear hx
  go_wp2
  go_ret
  exact ⟨retb (by simp), HX1.out⟩

theorem infoLane4 : (Tryz.prog.info? 84).map (fun i => (i.zero, i.size, i.bytes)) = some (some (.agg #[.slice none 0 0, .int .i64 0, .slice none 0 0, .bool false]), 4, 64) := by kernel_rfl

set_option maxRecDepth 100000 in
set_option maxHeartbeats 4000000 in
theorem iNewLane_c (w : World) : Calls Tryz.prog 89 #[] w fun e w' => ∃ b, e = .returned (.agg #[.slice (some ⟨b, 0, none⟩) 4 4, .int .i64 0, .slice none 0 0, .bool false]) ∧ w.heap.size ≤ b ∧ b < w'.heap.size ∧ OI w' w.heap.size (some ⟨b, 0, none⟩) 4 4 [0, 0, 0, 0] ∧ Ext w w' := by
  have hmk : ∀ W : World, (Instr.makeSlice 24 (.int .i64 4) (.int .i64 4)).run Tryz.prog W = .ok (.slice (some ⟨W.heap.size, 0, none⟩) 4 4) (W.alloc (.cells (zeroRow (.int .i64 0) 4) 3)) := fun W => make_int 4 (by omega) W
  go_enter Tryz.func89, Tryz.ntmps89
  go_wp2
  have hX1 := Ext.alloc w (.cells #[.slice (some ⟨w.heap.size + 1, 0, none⟩) 4 4, .int .i64 0, .slice none 0 0, .bool false] 84)
  have hX2 := Ext.alloc (w.alloc (.cells #[.slice (some ⟨w.heap.size + 1, 0, none⟩) 4 4, .int .i64 0, .slice none 0 0, .bool false] 84)) (.cells (zeroRow (.int .i64 0) 4) 3)
  have hN := hX2.heap_ (heap_alloc_new w (.cells #[.slice (some ⟨w.heap.size + 1, 0, none⟩) 4 4, .int .i64 0, .slice none 0 0, .bool false] 84))
  refine ret_cell Tryz.results89 _ rfl _ _ _ hN _ (Tryz.underlying84) rfl (by kernel_rfl) rfl ?_
  have hsz : (w.alloc (.cells #[.slice (some ⟨w.heap.size + 1, 0, none⟩) 4 4, .int .i64 0, .slice none 0 0, .bool false] 84)).heap.size = w.heap.size + 1 := by simp
  have ho := OR.lit (w.alloc (.cells #[.slice (some ⟨w.heap.size + 1, 0, none⟩) 4 4, .int .i64 0, .slice none 0 0, .bool false] 84)) w.heap.size 3 1 4 (zeroRow (.int .i64 0) 4) (by omega) (by omega) (by rw [zeroRow_size])
  rw [hsz, show (zeroRow (.int .i64 0) 4).toList = List.replicate 4 (.int .i64 0) from toList_madeCells_one _ _] at ho
  exact ⟨w.heap.size + 1, rfl, by omega, by simp, ho, hX1.trans hX2⟩


/-- A crowd in the course of being laid: k lanes are there. -/
structure NCr (w : World) (B rb cb k : Nat) (L : Option Addr) (lc : Nat) (R : Nat → Nat) (mb mc : Nat) (m : List Int) : Prop where
  row : OR w B 84 4 L k lc (lanesV ⟨0, lc, R, fun _ => 4, fun _ => none, fun _ => 0, mb, mc⟩ k fun _ => Ln.new)
  regs : ∀ j, j < k → OI w B (some ⟨R j, 0, none⟩) 4 4 [0, 0, 0, 0]
  mem : OI w B (some ⟨mb, 0, none⟩) m.length mc m
  rm : ∀ j, j < k → R j ≠ mb
  rr : ∀ i j, i < k → j < k → R i = R j → i = j
  blk : w.heap[cb]? = some (.cells #[.slice L k lc, .slice (some ⟨mb, 0, none⟩) m.length mc] 67 (0, 0))
  cB : B ≤ cb
  res : w.heap[rb]? = some (.cells #[.slice none 0 0, .slice none 0 0] 67 (0, 0))
  rc : rb ≠ cb

theorem own_heap {w : World} {base e size n c : Nat} {A : Option Addr} {xs : List Value} (h : OR w base e size A n c xs) {q : Nat} (hq : Value.ownBlock (.slice A n c) = some q) : ∃ cur, w.heap[q]? = some (.cells cur e (0, 0)) := by
  rcases h.2 with ⟨hv, _⟩ | ⟨g, cap, cur, hv, _, hg, _⟩
  · rw [hv] at hq; simp [Value.ownBlock] at hq
  · rw [hv] at hq
    simp [Value.ownBlock] at hq
    subst hq
    exact ⟨cur, hg⟩
theorem own_sep {w : World} {b1 b2 e1 e2 s1 s2 n1 n2 c1 c2 : Nat} {A1 A2 : Option Addr} {x1 x2 : List Value} (h1 : OR w b1 e1 s1 A1 n1 c1 x1) (h2 : OR w b2 e2 s2 A2 n2 c2 x2) (hne : e1 ≠ e2) :
    Value.ownBlock (.slice A1 n1 c1) = none ∨ Value.ownBlock (.slice A1 n1 c1) ≠ Value.ownBlock (.slice A2 n2 c2) := by
  cases hq : Value.ownBlock (.slice A1 n1 c1) with
  | none => exact .inl rfl
  | some q =>
    refine .inr fun e => ?_
    obtain ⟨cur, hc⟩ := own_heap h2 e.symm
    exact own_ne h1 hc hne hq

theorem NCr.step {w w4 w3 : World} {B rb cb k lc mb mc b g cap : Nat} {L : Option Addr} {R : Nat → Nat} {m : List Int} (h : NCr w B rb cb k L lc R mb mc m) (hB : B ≤ w.heap.size) (hx : Ext w w4) (hb1 : w.heap.size ≤ b) (hb3 : OI w4 B (some ⟨b, 0, none⟩) 4 4 [0, 0, 0, 0])
    (hg : (w4.alloc (.cells #[.slice (some ⟨b, 0, none⟩) 4 4, .int .i64 0, .slice none 0 0, .bool false] 84)).grownBy w3 (Value.ownBlock (.slice L k lc)))
    (ho : OR w3 B 84 4 (some ⟨g, 0, none⟩) (k + 1) cap (lanesV ⟨0, lc, R, fun _ => 4, fun _ => none, fun _ => 0, mb, mc⟩ k (fun _ => Ln.new) ++ [.slice (some ⟨b, 0, none⟩) 4 4, .int .i64 0, .slice none 0 0, .bool false])) :
    NCr (w3.setCell ⟨cb, 0, none⟩ (.slice (some ⟨g, 0, none⟩) (k + 1) cap)) B rb cb (k + 1) (some ⟨g, 0, none⟩) cap (fun j => if j = k then b else R j) mb mc m ∧ Below B w (w3.setCell ⟨cb, 0, none⟩ (.slice (some ⟨g, 0, none⟩) (k + 1) cap)) := by
  have hX := hx.trans (Ext.alloc w4 (.cells #[.slice (some ⟨b, 0, none⟩) 4 4, .int .i64 0, .slice none 0 0, .bool false] 84))
  have hrow := OR.ext h.row hX
  have hcb := hX.heap_ h.blk
  have hne : Value.ownBlock (.slice L k lc) ≠ some cb := own_ne hrow hcb (by decide)
  have hcb3 : w3.heap[cb]? = some (.cells #[.slice L k lc, .slice (some ⟨mb, 0, none⟩) m.length mc] 67 (0, 0)) := (hg.block cb (lt_of_block hcb) (fun e => hne e.symm)).trans hcb
  have oi : ∀ {A : Option Addr} {n c : Nat} {xs : List Int}, OI (w4.alloc (.cells #[.slice (some ⟨b, 0, none⟩) 4 4, .int .i64 0, .slice none 0 0, .bool false] 84)) B A n c xs → OI (w3.setCell ⟨cb, 0, none⟩ (.slice (some ⟨g, 0, none⟩) (k + 1) cap)) B A n c xs := fun hA => by
    have h1 : OI w3 B _ _ _ _ := OR.kept hA hg (own_sep hA hrow (by decide))
    exact OR.set_other h1 (p := ⟨cb, 0, none⟩) (own_ne h1 hcb3 (by decide)) _
  have hlt : ∀ j, j < k → R j < w.heap.size := fun j hj => (OR.base_le (h.regs j hj)).2
  have hml := (OR.base_le h.mem).2
  refine ⟨⟨?_, fun j hj => ?_, oi (OR.ext h.mem hX), fun j hj => ?_, fun i j hi hj => ?_, ?_, h.cB, ?_, h.rc⟩, ?_⟩
  · have e : lanesV ⟨0, cap, fun j => if j = k then b else R j, fun _ => 4, fun _ => none, fun _ => 0, mb, mc⟩ (k + 1) (fun _ => Ln.new) = lanesV ⟨0, lc, R, fun _ => 4, fun _ => none, fun _ => 0, mb, mc⟩ k (fun _ => Ln.new) ++ [.slice (some ⟨b, 0, none⟩) 4 4, .int .i64 0, .slice none 0 0, .bool false] := by
      rw [lanesV_snoc]
      congr 1
      · refine lanesV_congr fun i hi q _ => ?_
        have : i ≠ k := by omega
        match q with
        | 0 => simp [laneCell, this]
        | 1 => rfl
        | 2 => rfl
        | q + 3 => rfl
      · simp [laneCell, Ln.new, adr]
    rw [e]
    exact OR.set_other ho (p := ⟨cb, 0, none⟩) (own_ne ho hcb3 (by decide)) _
  · by_cases e : j = k
    · subst e
      simp only [if_true]
      exact oi (OR.alloc hb3 _)
    · simp only [e, if_false]
      exact oi (OR.ext (h.regs j (by omega)) hX)
  · by_cases e : j = k
    · simp only [e, if_true]; omega
    · simp only [e, if_false]; exact h.rm j (by omega)
  · by_cases e1 : i = k <;> by_cases e2 : j = k <;> simp only [e1, e2, if_true, if_false]
    · intro _; trivial
    · intro e; have := hlt j (by omega); omega
    · intro e; have := hlt i (by omega); omega
    · exact h.rr i j (by omega) (by omega)
  · exact heap_set_same hcb3 0 _
  · have hrb := hX.heap_ h.res
    have hne2 : Value.ownBlock (.slice L k lc) ≠ some rb := own_ne hrow hrb (by decide)
    rw [heap_set_other h.rc]
    exact (hg.block rb (lt_of_block hrb) (fun e => hne2 e.symm)).trans hrb
  · have hbl : Below B w w3 := ⟨hg.os.trans hX.os, hg.tape.trans hX.tape, hg.output.trans hX.output, Nat.le_trans hX.size hg.size, fun i hi => by
      have h1 := hX.block i (by omega)
      have h2 := hg.block i (Nat.lt_of_lt_of_le (by omega : i < w.heap.size) hX.size) (fun e => by
        have := (OR.block hrow i e.symm).1
        omega)
      exact h2.trans h1⟩
    exact hbl.setCell h.cB _

def NcRel (w : World) (n rb : Nat) (cb mb mc : Nat) (m : List Int) (kv : Value) (wr : World) : Prop :=
  ∃ (k : Nat) (L : Option Addr) (lc : Nat) (R : Nat → Nat), k ≤ n ∧ kv = .int .i64 k ∧ NCr wr w.heap.size rb cb k L lc R mb mc m ∧ Below w.heap.size w wr
theorem NCr.done {w : World} {B rb cb n lc mb mc : Nat} {L : Option Addr} {R : Nat → Nat} {m : List Int} (h : NCr w B rb cb n L lc R mb mc m) (hn : 1 ≤ n) : ∃ z : Gm, L = some ⟨z.lb, 0, none⟩ ∧ z.lc = lc ∧ z.mb = mb ∧ z.mc = mc ∧ CM (fun _ => True) w B n z (Cw.start n m) := by
  obtain ⟨g, rfl, hg⟩ := OR.at_ h.row (by omega)
  have hl : ∀ k, k < n → (Cw.start n m).lane k = Ln.new := fun k hk => by
    simp [Cw.start, Cw.lane, List.getD_eq_getElem?_getD, hk]
  refine ⟨⟨g, lc, R, fun _ => 4, fun _ => none, fun _ => 0, mb, mc⟩, rfl, rfl, rfl, rfl, ⟨?_, fun k hk => ?_, fun k hk => ?_, h.mem, h.rm, h.rr, fun k hk => by simp, fun j k hj hk => by simp, fun j k q hj hk h1 => by simp at h1, trivial, trivial, fun _ _ => trivial, fun _ _ _ _ => trivial, fun _ _ => trivial⟩⟩
  · have e : lanesV ⟨g, lc, R, fun _ => 4, fun _ => none, fun _ => 0, mb, mc⟩ n (Cw.start n m).lane = lanesV ⟨0, lc, R, fun _ => 4, fun _ => none, fun _ => 0, mb, mc⟩ n fun _ => Ln.new :=
      lanesV_congr fun i hi q _ => by
        rw [hl i hi]
        match q with
        | 0 => rfl
        | 1 => rfl
        | 2 => rfl
        | q + 3 => rfl
    rw [e]
    exact h.row
  · rw [hl k hk]; exact h.regs k hk
  · rw [hl k hk]; exact OR.nil_ _ _ _ _

set_option maxRecDepth 100000 in
set_option maxHeartbeats 4000000 in
theorem newCrowd_c (M : Option Addr) (mcap : Nat) (m : List Int) (n : Nat) (w : World) (hM : RdI w w.heap.size M m) (hn : 1 ≤ n ∧ n ≤ 8) (hml : 1 ≤ m.length ∧ m.length ≤ 32) (hmc : M = none → mcap = 0) :
    Calls Tryz.prog 56 #[.int .i64 n, .slice M m.length mcap] w fun e w' => ∃ z : Gm, e = .returned (.agg #[.slice (some ⟨z.lb, 0, none⟩) n z.lc, .slice (some ⟨z.mb, 0, none⟩) m.length z.mc]) ∧ CM (fun _ => True) w' w.heap.size n z (Cw.start n m) ∧ Below w.heap.size w w' := by
  have hX0 := Ext.alloc w (.cells #[.slice none 0 0, .slice none 0 0] 67)
  have hN0 := heap_alloc_new w (.cells #[.slice none 0 0, .slice none 0 0] 67)
  have hM0 := (hM.below hX0.below).more hX0.size
  have hsz0 : (w.alloc (.cells #[.slice none 0 0, .slice none 0 0] 67)).heap.size = w.heap.size + 1 := by simp
  go_enter Tryz.func56, Tryz.ntmps56
  go_wp2_with fail
  refine (cloneI_c M mcap m _ hM0 (by omega) hmc).mono ?_
  rintro e w1 ⟨M', mc, rfl, hm1, hb1⟩
  obtain ⟨mb, rfl, hmb1, hmb2, -⟩ := OR.at_ hm1 (by omega)
  rw [hsz0] at hm1 hmb1
  have hs1 := hb1.size
  have hX1 := Ext.alloc w1 (.cells #[.slice none 0 0, .slice (some ⟨mb, 0, none⟩) m.length mc] 67)
  have hN1 := heap_alloc_new w1 (.cells #[.slice none 0 0, .slice (some ⟨mb, 0, none⟩) m.length mc] 67)
  have hN01 := hX1.heap_ ((Ext.of_below hb1).heap_ hN0)
  have hmz : OI (w1.alloc (.cells #[.slice none 0 0, .slice (some ⟨mb, 0, none⟩) m.length mc] 67)) w.heap.size (some ⟨mb, 0, none⟩) m.length mc m := OR.alloc (OR.mono hm1 (by omega)) _
  have HB := Lib.hid (show Below w.heap.size w (w1.alloc (.cells #[.slice none 0 0, .slice (some ⟨mb, 0, none⟩) m.length mc] 67)) from (below_trans hX0.below (Nat.le_refl _) hb1).alloc (by omega) _)
  have HN := Lib.hid (show NCr (w1.alloc (.cells #[.slice none 0 0, .slice (some ⟨mb, 0, none⟩) m.length mc] 67)) w.heap.size w.heap.size w1.heap.size 0 none 0 (fun _ => 0) mb mc m from
    ⟨OR.nil_ _ _ _ _, fun j hj => absurd hj (Nat.not_lt_zero _), hmz, fun j hj => absurd hj (Nat.not_lt_zero _), fun i j hi => absurd hi (Nat.not_lt_zero _), hN1, by omega, hN01, by omega⟩)
  have hcbs : w.heap.size < w1.heap.size := by omega
  clear hX0 hN0 hM0 hsz0 hb1 hm1 hmb1 hmb2 hs1 hX1 hN1 hN01 hmz hM
  go_wp2_with fail
  generalize w1.alloc (.cells #[.slice none 0 0, .slice (some ⟨mb, 0, none⟩) m.length mc] 67) = w2 at *
  generalize w1.heap.size = cb at *
  go_loopw [10] (fun kv wr => NcRel w n w.heap.size cb mb mc m kv wr) (fun kv _ => n - (intOf kv).toNat)
  case atStart => exact ⟨0, none, 0, _, Nat.zero_le _, rfl, HN.out, HB.out⟩
  case round =>
    obtain ⟨k, L, lc, R, hk, rfl, hN, hb⟩ := hrel
    have HNr := Lib.hid hN
    have HBr := Lib.hid hb
    have hbs := hb.size
    have c0 := cell_of_heap hN.blk 0
    clear HN HB hb
    by_cases hlt : k < n
    · have hkI : (k : Int) < (n : Int) := by omega
      obtain ⟨i0, hi0, hz0, hz1, hz2⟩ := info_parts infoLane4
      have hcbl : cb < wr.heap.size := lt_of_block hN.blk
      have hne : Value.ownBlock (.slice L k lc) ≠ some cb := own_ne hN.row hN.blk (by decide)
      have hblk := hN.blk
      clear hN
      go_wp2_with fail
      go_region_law (first
        | (go_simp; go_at_call 89; refine (iNewLane_c _).mono ?_; rintro e w4 ⟨b, rfl, hnb1, hnb2, hnb3, hnx⟩
           have hx4 := (Ext.drew wr).trans hnx
           have c04 := hx4.cell c0
           have hcb4 := Nat.lt_of_lt_of_le hcbl hx4.size
           have hOR4 := Lib.hid (OR.alloc (OR.ext HNr.out.row hx4) (.cells #[.slice (some ⟨b, 0, none⟩) 4 4, .int .i64 0, .slice none 0 0, .bool false] 84))
           have hnew := heap_alloc_new w4 (.cells #[.slice (some ⟨b, 0, none⟩) 4 4, .int .i64 0, .slice none 0 0, .bool false] 84)
           have hblk4 := (Ext.alloc w4 (.cells #[.slice (some ⟨b, 0, none⟩) 4 4, .int .i64 0, .slice none 0 0, .bool false] 84)).heap_ (hx4.heap_ hblk))
        | (refine step_append_lies _ (by rfl) _ _ _ (by rfl) w.heap.size 84 i0 _ 4 64 Tryz.underlying65 hi0 hz0 hz1 hz2 rfl (by omega) (.slice L k lc) k _ (by rfl) hOR4.out ⟨w4.heap.size, 0, none⟩ 1 1 [.slice (some ⟨b, 0, none⟩) 4 4, .int .i64 0, .slice none 0 0, .bool false] (by rfl) (by rfl) (World.news_of_block (cs := #[.slice (some ⟨b, 0, none⟩) 4 4, .int .i64 0, .slice none 0 0, .bool false]) (t := 84) (fr := (0, 0)) hnew) (by simp [Value.oneCell']) (by omega) (by unfold maxLen; omega) (by omega) (by have := hx4.size; simp; omega) (w4.heap.size + 1) (by simp) ?_
           intro gg cap w3 ho3 hgrow hat hlt3
           have hblk3 := (hgrow.block cb (lt_of_block hblk4) (fun e => hne e.symm)).trans hblk4
           have f3 := free_of_heap hblk3 0
           have c3 := cell_of_heap hblk3 0))
      all_goals
        have hst := HNr.out.step hbs hx4 hnb1 (OR.mono hnb3 hbs) ⟨hgrow.os, hgrow.tape, hgrow.output, hgrow.size, hgrow.block⟩ ho3
        have HST := Lib.hid hst
        clear hst ho3 hgrow hat hlt3 hblk3 f3 c3 hOR4 hnew hblk4 c04 hcb4
        go_wp2
        refine ⟨⟨k + 1, _, _, _, by omega, by go_num, HST.out.1, HBr.out.trans HST.out.2⟩, ?_⟩
        simp [intOf]; omega
    · obtain rfl : k = n := by omega
      have hres := cell_of_heap hN.res 0
      have hres1 := cell_of_heap hN.res 1
      have c1 := cell_of_heap hN.blk 1
      have f0 := free_of_heap hN.res 0
      have f1 := free_of_heap hN.res 1
      have hRS := hN.res
      clear hN
      go_wp2
      have hz1 := heap_set_same hRS 0 (.slice L k lc)
      have hz2 := heap_set_same hz1 1 (.slice (some ⟨mb, 0, none⟩) m.length mc)
      refine ret_cell Tryz.results56 _ rfl _ _ _ hz2 _ (Tryz.underlying67) rfl (by kernel_rfl) rfl ?_
      obtain ⟨z, rfl, h1, h2, h3, hC⟩ := HNr.out.done hn.1
      have hoi : ∀ {A : Option Addr} {e nn c : Nat} {sz : Nat} {xs : List Value}, OR wr w.heap.size e sz A nn c xs → e ≠ 67 → OR ((wr.setCell ⟨w.heap.size, 0, none⟩ (.slice (some ⟨z.lb, 0, none⟩) k lc)).setCell ⟨w.heap.size, 1, none⟩ (.slice (some ⟨mb, 0, none⟩) m.length mc)) w.heap.size e sz A nn c xs := fun hA hne => by
        have hn1 := own_ne hA hRS hne
        exact OR.set_other (OR.set_other hA (p := ⟨w.heap.size, 0, none⟩) hn1 _) (p := ⟨w.heap.size, 1, none⟩) hn1 _
      subst h1 h2 h3
      refine ⟨z, rfl, ⟨hoi hC.row (by decide), fun j hj => hoi (hC.regs j hj) (by decide), fun j hj => hoi (hC.turns j hj) (by decide), hoi hC.mem (by decide), hC.rm, hC.rr, hC.tm, hC.tr, hC.tt, trivial, trivial, fun _ _ => trivial, fun _ _ _ _ => trivial, fun _ _ => trivial⟩, (HBr.out.setCell (Nat.le_refl _) _).setCell (Nat.le_refl _) _⟩


set_option maxRecDepth 100000 in
set_option maxHeartbeats 4000000 in
theorem sMemoryValid_c (A : Option Addr) (c : Nat) (m : List Int) (w : World) (hA : RdI w w.heap.size A m) (hl : m.length ≤ 1000000000) :
    Calls Tryz.prog 37 #[.slice A m.length c] w fun e w' => e = .returned (.bool (memOk m)) ∧ w = w' := by
  go_enter Tryz.func37, Tryz.ntmps37
  go_wp2
  go_loopw [3] (fun i wr => ∃ k : Nat, k ≤ m.length ∧ i = .int .i64 k ∧ Hid (∀ j x, j < k → m[j]? = some x → inR x 0 255 = true) ∧ w = wr) (fun i _ => m.length - (intOf i).toNat)
  case atStart => exact ⟨0, Nat.zero_le _, rfl, fun j x hj => by omega, rfl⟩
  case round =>
    obtain ⟨k, hk, rfl, HP, rfl⟩ := hrel
    by_cases hlt : k < m.length
    · obtain ⟨b, off, x, rfl, hbB, hx, c0⟩ := hA.at_ hlt
      have HX := Lib.hid hx
      clear hx
      go_wp2_with fail
      refine (l2Word_c x w).mono ?_
      rintro e w1 ⟨rfl, rfl⟩
      cases hv : inR x 0 255 with
      | false =>
        have hm : memOk m = false := by
          have : m.all (fun v => inR v 0 255) = false := List.all_eq_false.2 ⟨x, List.mem_of_getElem? HX.out, by simp [hv]⟩
          simp [memOk, this]
        go_wp2
        go_ret
        exact ⟨retb hm.symm, rfl⟩
      | true =>
        have HV := Lib.hid hv
        clear hv
        go_wp2
        go_roundw
        case rel =>
          refine ⟨k + 1, by omega, by go_num, fun j y hj hy => ?_, trivial⟩
          by_cases e : j = k
          · subst e
            rw [HX.out] at hy
            injection hy with hy
            subst hy
            exact HV.out
          · exact HP.out j y (by omega) hy
        case measure => simp [intOf]; omega
    · obtain rfl : k = m.length := by omega
      have hm : memOk m = inR m.length 1 32 := by
        have : m.all (fun v => inR v 0 255) = true := List.all_eq_true.2 fun x hx => by
          obtain ⟨j, hj, rfl⟩ := List.mem_iff_getElem.1 hx
          exact HP.out j _ hj (List.getElem?_eq_getElem hj)
        simp [memOk, this]
      go_wp2_with fail
      refine (l1In_c m.length 1 32 w).mono ?_
      rintro e w1 ⟨rfl, rfl⟩
      go_wp2
      go_ret
      exact ⟨retb hm.symm, rfl⟩

set_option maxRecDepth 100000 in
set_option maxHeartbeats 4000000 in
theorem sl8Ok_c (A Am : Option Addr) (c cm : Nat) (l : List Cd) (n : Int) (m : List Int) (w : World) (hA : RdC w w.heap.size A l) (hM : RdI w w.heap.size Am m) (hl : l.length ≤ 1000000000) (hml : m.length ≤ 1000000000) :
    Calls Tryz.prog 30 #[.slice A l.length c, .int .i64 n, .slice Am m.length cm] w fun e w' => e = .returned (.bool (lockOk l n m)) ∧ Below w.heap.size w w' := by
  go_enter Tryz.func30, Tryz.ntmps30
  go_wp2_with fail
  refine (sProgramValid_c A c l w hA hl).mono ?_
  rintro e w1 ⟨rfl, hb1⟩
  cases hp : pv l with
  | false =>
    go_wp2
    go_ret
    exact ⟨retb (by simp [lockOk, hp]), hb1⟩
  | true =>
    go_wp2_with fail
    refine (l1In_c n 1 8 w1).mono ?_
    rintro e w2 ⟨rfl, rfl⟩
    cases hin : inR n 1 8 with
    | false =>
      go_wp2
      go_ret
      exact ⟨retb (by simp [lockOk, hin]), hb1⟩
    | true =>
      go_wp2_with fail
      refine (sMemoryValid_c Am cm m w1 ((hM.below hb1).more hb1.size) hml).mono ?_
      rintro e w2 ⟨rfl, rfl⟩
      go_wp2
      go_ret
      exact ⟨retb (by simp [lockOk, hp, hin]), hb1⟩


set_option maxRecDepth 100000 in
set_option maxHeartbeats 4000000 in
theorem sNewLane_c (w : World) : Calls Tryz.prog 98 #[] w fun e w' => ∃ b, e = .returned (.agg #[.slice (some ⟨b, 0, none⟩) 4 4, .int .i64 0, .slice none 0 0, .bool false]) ∧ w.heap.size ≤ b ∧ b < w'.heap.size ∧ OI w' w.heap.size (some ⟨b, 0, none⟩) 4 4 [0, 0, 0, 0] ∧ Ext w w' := by
  have hmk : ∀ W : World, (Instr.makeSlice 24 (.int .i64 4) (.int .i64 4)).run Tryz.prog W = .ok (.slice (some ⟨W.heap.size, 0, none⟩) 4 4) (W.alloc (.cells (zeroRow (.int .i64 0) 4) 3)) := fun W => make_int 4 (by omega) W
  go_enter Tryz.func98, Tryz.ntmps98
  go_wp2
  have hX1 := Ext.alloc w (.cells #[.slice (some ⟨w.heap.size + 1, 0, none⟩) 4 4, .int .i64 0, .slice none 0 0, .bool false] 84)
  have hX2 := Ext.alloc (w.alloc (.cells #[.slice (some ⟨w.heap.size + 1, 0, none⟩) 4 4, .int .i64 0, .slice none 0 0, .bool false] 84)) (.cells (zeroRow (.int .i64 0) 4) 3)
  have hN := hX2.heap_ (heap_alloc_new w (.cells #[.slice (some ⟨w.heap.size + 1, 0, none⟩) 4 4, .int .i64 0, .slice none 0 0, .bool false] 84))
  refine ret_cell Tryz.results98 _ rfl _ _ _ hN _ (Tryz.underlying84) rfl (by kernel_rfl) rfl ?_
  have hsz : (w.alloc (.cells #[.slice (some ⟨w.heap.size + 1, 0, none⟩) 4 4, .int .i64 0, .slice none 0 0, .bool false] 84)).heap.size = w.heap.size + 1 := by simp
  have ho := OR.lit (w.alloc (.cells #[.slice (some ⟨w.heap.size + 1, 0, none⟩) 4 4, .int .i64 0, .slice none 0 0, .bool false] 84)) w.heap.size 3 1 4 (zeroRow (.int .i64 0) 4) (by omega) (by omega) (by rw [zeroRow_size])
  rw [hsz, show (zeroRow (.int .i64 0) 4).toList = List.replicate 4 (.int .i64 0) from toList_madeCells_one _ _] at ho
  exact ⟨w.heap.size + 1, rfl, by omega, by simp, ho, hX1.trans hX2⟩

set_option maxRecDepth 100000 in
set_option maxHeartbeats 4000000 in
theorem sNewCrowd_c (M : Option Addr) (mcap : Nat) (m : List Int) (n : Nat) (w : World) (hM : RdI w w.heap.size M m) (hn : 1 ≤ n ∧ n ≤ 8) (hml : 1 ≤ m.length ∧ m.length ≤ 32) (hmw : wordsOk m) :
    Calls Tryz.prog 63 #[.int .i64 n, .slice M m.length mcap] w fun e w' => ∃ z : Gm, e = .returned (.agg #[.slice (some ⟨z.lb, 0, none⟩) n z.lc, .slice (some ⟨z.mb, 0, none⟩) m.length z.mc]) ∧ CM (fun _ => True) w' w.heap.size n z (Cw.start n m) ∧ Below w.heap.size w w' := by
  have hX0 := Ext.alloc w (.cells #[.slice none 0 0, .slice none 0 0] 67)
  have hN0 := heap_alloc_new w (.cells #[.slice none 0 0, .slice none 0 0] 67)
  have hM0 := (hM.below hX0.below).more hX0.size
  have hsz0 : (w.alloc (.cells #[.slice none 0 0, .slice none 0 0] 67)).heap.size = w.heap.size + 1 := by simp
  go_enter Tryz.func63, Tryz.ntmps63
  have hin : inR (n : Int) 1 8 = true := inR_iff.2 (by omega)
  have hmo : memOk m = true := memOk_iff.2 ⟨hmw, hml⟩
  obtain ⟨Mb, Mo, _, rfl, _, _, _⟩ := hM0.at_ (k := 0) (by omega)
  go_wp2_with fail
  generalize w.alloc (.cells #[.slice none 0 0, .slice none 0 0] 67) = w0 at *
  have HSZ0 := Lib.hid hsz0
  clear hsz0
  refine (l1In_c _ _ _ _).mono ?_
  rintro e w' ⟨rfl, rfl⟩
  rw [hin]
  go_wp2_with fail
  refine (sMemoryValid_c _ mcap m _ hM0 (by omega)).mono ?_
  rintro e w' ⟨rfl, rfl⟩
  rw [hmo]
  have HMM := Lib.hid (hM0.below ((Below.refl _ _).alloc (Nat.le_refl _) (.cells #[] 3)))
  have ho0 := Lib.hid (OI.empty_ w0 w0.heap.size (Nat.le_refl _))
  go_wp2_with (at_builtin; refine app_rd 24 3 _ 1 8 Tryz.underlying24 infoInt rfl (by decide) (by decide) rfl _ _ rfl w0.heap.size _ 0 0 _ ho0.out rfl w0.heap.size ⟨Mb, Mo, none⟩ m.length mcap _ rfl HMM.out (ints_one m) ?hn ?hb ?_)
  case hn => omega
  case hb => simp
  intro M' mc w1 ho1 hg1
  have hb1 := below_gr ((Below.refl w0.heap.size w0).alloc (Nat.le_refl _) (.cells #[] 3)) (by simp) ho0.out (Nat.le_refl _) hg1
  have hm1 : OI w1 w0.heap.size M' m.length mc m := by unfold OI; simpa using ho1
  clear HMM ho0 ho1 hg1
  have hsz0 := HSZ0.out
  clear HSZ0
  obtain ⟨mb, rfl, hmb1, hmb2, -⟩ := OR.at_ hm1 (by omega)
  rw [hsz0] at hm1 hmb1
  have hs1 := hb1.size
  have hX1 := Ext.alloc w1 (.cells #[.slice none 0 0, .slice (some ⟨mb, 0, none⟩) m.length mc] 67)
  have hN1 := heap_alloc_new w1 (.cells #[.slice none 0 0, .slice (some ⟨mb, 0, none⟩) m.length mc] 67)
  have hN01 := hX1.heap_ ((Ext.of_below hb1).heap_ hN0)
  have hmz : OI (w1.alloc (.cells #[.slice none 0 0, .slice (some ⟨mb, 0, none⟩) m.length mc] 67)) w.heap.size (some ⟨mb, 0, none⟩) m.length mc m := OR.alloc (OR.mono hm1 (by omega)) _
  have HB := Lib.hid (show Below w.heap.size w (w1.alloc (.cells #[.slice none 0 0, .slice (some ⟨mb, 0, none⟩) m.length mc] 67)) from (below_trans hX0.below (Nat.le_refl _) hb1).alloc (by omega) _)
  have HN := Lib.hid (show NCr (w1.alloc (.cells #[.slice none 0 0, .slice (some ⟨mb, 0, none⟩) m.length mc] 67)) w.heap.size w.heap.size w1.heap.size 0 none 0 (fun _ => 0) mb mc m from
    ⟨OR.nil_ _ _ _ _, fun j hj => absurd hj (Nat.not_lt_zero _), hmz, fun j hj => absurd hj (Nat.not_lt_zero _), fun i j hi => absurd hi (Nat.not_lt_zero _), hN1, by omega, hN01, by omega⟩)
  have hcbs : w.heap.size < w1.heap.size := by omega
  clear hX0 hN0 hM0 hsz0 hb1 hm1 hmb1 hmb2 hs1 hX1 hN1 hN01 hmz hM
  go_wp2_with fail
  generalize w1.alloc (.cells #[.slice none 0 0, .slice (some ⟨mb, 0, none⟩) m.length mc] 67) = w2 at *
  generalize w1.heap.size = cb at *
  go_loopw [6] (fun kv wr => NcRel w n w.heap.size cb mb mc m kv wr) (fun kv _ => n - (intOf kv).toNat)
  case atStart => exact ⟨0, none, 0, _, Nat.zero_le _, rfl, HN.out, HB.out⟩
  case round =>
    obtain ⟨k, L, lc, R, hk, rfl, hN, hb⟩ := hrel
    have HNr := Lib.hid hN
    have HBr := Lib.hid hb
    have hbs := hb.size
    have c0 := cell_of_heap hN.blk 0
    clear HN HB hb
    by_cases hlt : k < n
    · have hkI : (k : Int) < (n : Int) := by omega
      obtain ⟨i0, hi0, hz0, hz1, hz2⟩ := info_parts infoLane4
      have hcbl : cb < wr.heap.size := lt_of_block hN.blk
      have hne : Value.ownBlock (.slice L k lc) ≠ some cb := own_ne hN.row hN.blk (by decide)
      have hblk := hN.blk
      clear hN
      go_wp2_with fail
      go_region_law (first
        | (go_simp; go_at_call 98; refine (sNewLane_c _).mono ?_; rintro e w4 ⟨b, rfl, hnb1, hnb2, hnb3, hnx⟩
           have hx4 := (Ext.drew wr).trans hnx
           have c04 := hx4.cell c0
           have hcb4 := Nat.lt_of_lt_of_le hcbl hx4.size
           have hOR4 := Lib.hid (OR.alloc (OR.ext HNr.out.row hx4) (.cells #[.slice (some ⟨b, 0, none⟩) 4 4, .int .i64 0, .slice none 0 0, .bool false] 84))
           have hnew := heap_alloc_new w4 (.cells #[.slice (some ⟨b, 0, none⟩) 4 4, .int .i64 0, .slice none 0 0, .bool false] 84)
           have hblk4 := (Ext.alloc w4 (.cells #[.slice (some ⟨b, 0, none⟩) 4 4, .int .i64 0, .slice none 0 0, .bool false] 84)).heap_ (hx4.heap_ hblk))
        | (refine step_append_lies _ (by rfl) _ _ _ (by rfl) w.heap.size 84 i0 _ 4 64 Tryz.underlying65 hi0 hz0 hz1 hz2 rfl (by omega) (.slice L k lc) k _ (by rfl) hOR4.out ⟨w4.heap.size, 0, none⟩ 1 1 [.slice (some ⟨b, 0, none⟩) 4 4, .int .i64 0, .slice none 0 0, .bool false] (by rfl) (by rfl) (World.news_of_block (cs := #[.slice (some ⟨b, 0, none⟩) 4 4, .int .i64 0, .slice none 0 0, .bool false]) (t := 84) (fr := (0, 0)) hnew) (by simp [Value.oneCell']) (by omega) (by unfold maxLen; omega) (by omega) (by have := hx4.size; simp; omega) (w4.heap.size + 1) (by simp) ?_
           intro gg cap w3 ho3 hgrow hat hlt3
           have hblk3 := (hgrow.block cb (lt_of_block hblk4) (fun e => hne e.symm)).trans hblk4
           have f3 := free_of_heap hblk3 0
           have c3 := cell_of_heap hblk3 0))
      all_goals
        have hst := HNr.out.step hbs hx4 hnb1 (OR.mono hnb3 hbs) ⟨hgrow.os, hgrow.tape, hgrow.output, hgrow.size, hgrow.block⟩ ho3
        have HST := Lib.hid hst
        clear hst ho3 hgrow hat hlt3 hblk3 f3 c3 hOR4 hnew hblk4 c04 hcb4
        go_wp2
        refine ⟨⟨k + 1, _, _, _, by omega, by go_num, HST.out.1, HBr.out.trans HST.out.2⟩, ?_⟩
        simp [intOf]; omega
    · obtain rfl : k = n := by omega
      have hres := cell_of_heap hN.res 0
      have hres1 := cell_of_heap hN.res 1
      have c1 := cell_of_heap hN.blk 1
      have f0 := free_of_heap hN.res 0
      have f1 := free_of_heap hN.res 1
      have hRS := hN.res
      clear hN
      go_wp2
      have hz1 := heap_set_same hRS 0 (.slice L k lc)
      have hz2 := heap_set_same hz1 1 (.slice (some ⟨mb, 0, none⟩) m.length mc)
      refine ret_cell Tryz.results63 _ rfl _ _ _ hz2 _ (Tryz.underlying67) rfl (by kernel_rfl) rfl ?_
      obtain ⟨z, rfl, h1, h2, h3, hC⟩ := HNr.out.done hn.1
      have hoi : ∀ {A : Option Addr} {e nn c : Nat} {sz : Nat} {xs : List Value}, OR wr w.heap.size e sz A nn c xs → e ≠ 67 → OR ((wr.setCell ⟨w.heap.size, 0, none⟩ (.slice (some ⟨z.lb, 0, none⟩) k lc)).setCell ⟨w.heap.size, 1, none⟩ (.slice (some ⟨mb, 0, none⟩) m.length mc)) w.heap.size e sz A nn c xs := fun hA hne => by
        have hn1 := own_ne hA hRS hne
        exact OR.set_other (OR.set_other hA (p := ⟨w.heap.size, 0, none⟩) hn1 _) (p := ⟨w.heap.size, 1, none⟩) hn1 _
      subst h1 h2 h3
      refine ⟨z, rfl, ⟨hoi hC.row (by decide), fun j hj => hoi (hC.regs j hj) (by decide), fun j hj => hoi (hC.turns j hj) (by decide), hoi hC.mem (by decide), hC.rm, hC.rr, hC.tm, hC.tr, hC.tt, trivial, trivial, fun _ _ => trivial, fun _ _ _ _ => trivial, fun _ _ => trivial⟩, (HBr.out.setCell (Nat.le_refl _) _).setCell (Nat.le_refl _) _⟩

def partL (lo cnt : Nat) : List Nat := (List.range cnt).map (lo + ·)
theorem partL_snoc (lo t : Nat) : partL lo (t + 1) = partL lo t ++ [lo + t] := by simp [partL, List.range_succ]
def relM (l : List Cd) (c : Cw) (lo t : Nat) : Nat := maskL ((amongL l c (partL lo t)).map (· - lo))
theorem relM_lt {l : List Cd} {c : Cw} {lo t : Nat} (ht : t ≤ 8) : relM l c lo t < 256 := by
  unfold relM
  refine maskL_lt (fun k hk => ?_)
  obtain ⟨j, hj, rfl⟩ := List.mem_map.1 hk
  have := (among_sub hj).1
  unfold partL at this
  obtain ⟨i, hi, rfl⟩ := List.mem_map.1 this
  have := List.mem_range.1 hi
  omega

set_option maxRecDepth 100000 in
set_option maxHeartbeats 4000000 in
theorem sl17Least_c {O : Nat → Prop} {w : World} {B n ca : Nat} {A : Option Addr} {l : List Cd} {z : Gm} {c : Cw} (h : CM O w B n z c) (hok : CwOk l n c) (hn : n ≤ 8) (hp : pv l = true) (lo cnt pcap off : Nat) (hoff : off = lo * 4) (hlc : lo + cnt ≤ n) (M2 : Option Addr) (k2 c2 : Nat) :
    Calls Tryz.prog 97 #[.agg #[.slice (some ⟨z.lb, off, none⟩) cnt pcap, .slice M2 k2 c2], .slice A l.length ca] w fun e w' => e = .returned (.tuple #[.int .i64 (relM l c lo cnt), .int .i64 (leastP l c (partL lo cnt))]) ∧ Ext w w' := by
  have hl40 := (pv_iff.1 hp).1
  have hX := Ext.alloc w (.cells #[.slice (some ⟨z.lb, off, none⟩) cnt pcap, .slice M2 k2 c2] 67)
  have hN := heap_alloc_new w (.cells #[.slice (some ⟨z.lb, off, none⟩) cnt pcap, .slice M2 k2 c2] 67)
  have b0 : (w.alloc (.cells #[.slice (some ⟨z.lb, off, none⟩) cnt pcap, .slice M2 k2 c2] 67)).cell? ⟨w.heap.size, 0, none⟩ = some (.slice (some ⟨z.lb, off, none⟩) cnt pcap) := cell_of_heap hN 0
  have HX := Lib.hid hX
  have HC := Lib.hid (h.ext hX)
  have HOK := Lib.hid hok
  have HOF := Lib.hid hoff
  clear hN hX h hok hoff
  go_enter Tryz.func97, Tryz.ntmps97
  go_wp2_with fail
  generalize w.alloc (.cells #[.slice (some ⟨z.lb, off, none⟩) cnt pcap, .slice M2 k2 c2] 67) = w1 at *
  go_loopw [6, 7, 8] (fun mv av kv wr => ∃ t : Nat, t ≤ cnt ∧ kv = .int .i64 t ∧ mv = .int .i64 (relM l c lo t) ∧ av = .int .i64 (leastP l c (partL lo t)) ∧ Ext w1 wr) (fun _ _ kv _ => cnt - (intOf kv).toNat)
  case atStart => exact ⟨0, Nat.zero_le _, rfl, rfl, by simp [leastP, partL], Ext.refl _⟩
  case round =>
    obtain ⟨t, ht, rfl, rfl, rfl, hx⟩ := hrel
    have HXr := Lib.hid hx
    have b0' := hx.cell b0
    have hC := HC.out.ext hx
    have hpb := (leastP_le l c (partL lo t)).1
    clear hx b0
    by_cases hlt : t < cnt
    · have hkI : (t : Int) < (cnt : Int) := by omega
      have hkn : lo + t < n := by omega
      have t8 : t < 8 := by omega
      obtain ⟨e0, e1, e2, e3⟩ := hC.cells hkn
      have hadr : (lo + t) * 4 = off + t * 4 := by rw [HOF.out]; omega
      rw [hadr] at e0 e1 e2 e3
      have hlbs := hC.lt.2
      have hpl := ((HOK.out.at_ hkn).2.pos_le hp).1
      have htl := ((HOK.out.at_ hkn).2.turns hp).1
      have HTK := Lib.hid (partL_snoc lo t)
      have hrl := relM_lt (l := l) (c := c) (lo := lo) (t := t) (by omega)
      have HLS := Lib.hid (fun a b => among_less (l := l) (c := c) (ks := partL lo t) (k := lo + t) a b)
      have HSM := Lib.hid (fun a b => among_same (l := l) (c := c) (ks := partL lo t) (k := lo + t) a b)
      have HMO := Lib.hid (fun a => among_more (l := l) (c := c) (ks := partL lo t) (k := lo + t) a)
      have HRM := Lib.hid (show relM l c lo (t + 1) = maskL ((amongL l c (partL lo t ++ [lo + t])).map (· - lo)) by unfold relM; rw [partL_snoc])
      have HRM0 := Lib.hid (show relM l c lo t = maskL ((amongL l c (partL lo t)).map (· - lo)) from rfl)
      have HLT := Lib.hid (show leastP l c (partL lo (t + 1)) = leastP l c (partL lo t ++ [lo + t]) by rw [partL_snoc])
      have hwp := wrap64_pow t (by omega)
      have HXA : ∀ cs : Array Value, Hid (Ext w1 (wr.alloc (.cells cs 84))) := fun cs => Lib.hid (HXr.out.trans (Ext.alloc wr _))
      clear hC hadr
      generalize amongL l c (partL lo t) = am at *
      generalize hlp : leastP l c (partL lo t) = lp at *
      clear hlp
      generalize hrm : relM l c lo t = rm at *
      clear hrm
      cases hw : (c.lane (lo + t)).waits with
      | true =>
        rw [hw] at e3
        have HR := Lib.hid (HMO.out (fun h => by unfold goesL at h; rw [hw] at h; cases h))
        clear hw
        go_wp2
        go_roundw
        case rel => exact ⟨t + 1, by omega, by go_num, by rw [HRM.out, HR.out.2, ← HRM0.out], by rw [HLT.out, HR.out.1], (HXA _).out⟩
        case measure => simp [intOf]; omega
      | false =>
        rw [hw] at e3
        by_cases hps : (c.lane (lo + t)).pos < l.length
        · have HG := Lib.hid (show goesL l (c.lane (lo + t)) = true by unfold goesL; rw [hw]; simp [hps])
          have hpsI : ¬ ((l.length : Int) ≤ ((c.lane (lo + t)).pos : Int)) := by omega
          clear hw
          generalize hpe : (c.lane (lo + t)).pos = ps at *
          by_cases h1 : ps < lp
          · have h1I : (ps : Int) < (lp : Int) := by omega
            have h1J : ¬ ((lp : Int) < (ps : Int)) := by omega
            have HR := Lib.hid (HLS.out HG.out h1)
            have HOB := Lib.hid (or_bit 0 t (by omega) (by omega))
            go_wp2
            go_roundw
            case rel =>
              refine ⟨t + 1, by omega, by go_num, ?_, by rw [HLT.out, HR.out.1], (HXA _).out⟩
              rw [HRM.out, HR.out.2]
              first | (rw [hwp]; simp [maskL]; done) | (simp [maskL]; done) | (rw [show ((2 : Int) ^ t) = ((2 ^ t : Nat) : Int) by simp, ← hwp]; simp [maskL] at HOB ⊢; exact HOB.out)
            case measure => simp [intOf]; omega
          · have h1I : ¬ ((ps : Int) < (lp : Int)) := by omega
            by_cases h2 : ps = lp
            · have h2I : ¬ ((lp : Int) < (ps : Int)) := by omega
              have HR := Lib.hid (HSM.out HG.out h2)
              have HOB := Lib.hid (or_bit rm t (by omega) (by omega))
              subst h2
              go_wp2
              go_roundw
              case rel =>
                refine ⟨t + 1, by omega, by go_num, ?_, by rw [HLT.out, HR.out.1], (HXA _).out⟩
                rw [HRM.out, HR.out.2, List.map_append, List.map_cons, List.map_nil, Nat.add_sub_cancel_left, maskL_snoc, ← HRM0.out]
                rw [show ((2 : Int) ^ t) = ((2 ^ t : Nat) : Int) by simp, ← hwp, HOB.out]
              case measure => simp [intOf]; omega
            · have h2I : (lp : Int) < (ps : Int) := by omega
              have HR := Lib.hid (HMO.out (fun _ => by omega))
              clear h2
              go_wp2
              go_roundw
              case rel => exact ⟨t + 1, by omega, by go_num, by rw [HRM.out, HR.out.2, ← HRM0.out], by rw [HLT.out, HR.out.1], (HXA _).out⟩
              case measure => simp [intOf]; omega
        · have HR := Lib.hid (HMO.out (fun h => absurd (goes_pos h).2 hps))
          have hpsI : (l.length : Int) ≤ ((c.lane (lo + t)).pos : Int) := by omega
          clear hw hps
          go_wp2
          go_roundw
          case rel => exact ⟨t + 1, by omega, by go_num, by rw [HRM.out, HR.out.2, ← HRM0.out], by rw [HLT.out, HR.out.1], (HXA _).out⟩
          case measure => simp [intOf]; omega
    · obtain rfl : t = cnt := by omega
      have hnI : ¬ ((t : Int) < (t : Int)) := by omega
      clear hC
      go_wp2
      go_ret2
      exact ⟨rfl, HX.out.trans HXr.out⟩

theorem lanesV_put {z z' : Gm} {n : Nat} {f f' : Nat → Ln} {k : Nat} (hk : k < n) (hoth : ∀ i, i < n → i ≠ k → ∀ q, q < 4 → laneCell z' i (f' i) q = laneCell z i (f i) q) :
    ((((lanesV z n f).set (k * 4) (laneCell z' k (f' k) 0)).set (k * 4 + 1) (laneCell z' k (f' k) 1)).set (k * 4 + 2) (laneCell z' k (f' k) 2)).set (k * 4 + 3) (laneCell z' k (f' k) 3) = lanesV z' n f' := by
  apply List.ext_getElem?
  intro i
  by_cases hi : i < n * 4
  · have h1 : i / 4 < n := by omega
    have h2 : i % 4 < 4 := Nat.mod_lt _ (by decide)
    have h3 : i / 4 * 4 + i % 4 = i := by omega
    have g1 := lanesV_get z n f h1 h2
    have g2 := lanesV_get z' n f' h1 h2
    rw [h3] at g1 g2
    rw [g2]
    simp only [List.getElem?_set, List.length_set, lanesV_len, g1]
    by_cases e1 : i / 4 = k
    · have : i % 4 = 0 ∨ i % 4 = 1 ∨ i % 4 = 2 ∨ i % 4 = 3 := by omega
      rcases this with e | e | e | e
      · have a0 : k * 4 = i := by omega
        rw [e1, e, if_neg (by omega), if_neg (by omega), if_neg (by omega), if_pos a0, if_pos (by omega)]
      · have a0 : k * 4 + 1 = i := by omega
        rw [e1, e, if_neg (by omega), if_neg (by omega), if_pos a0, if_pos (by omega)]
      · have a0 : k * 4 + 2 = i := by omega
        rw [e1, e, if_neg (by omega), if_pos a0, if_pos (by omega)]
      · have a0 : k * 4 + 3 = i := by omega
        rw [e1, e, if_pos a0, if_pos (by omega)]
    · rw [if_neg (by omega), if_neg (by omega), if_neg (by omega), if_neg (by omega), hoth _ h1 e1 _ h2]
  · rw [List.getElem?_eq_none (by simp only [List.length_set, lanesV_len]; omega), List.getElem?_eq_none (by rw [lanesV_len]; omega)]

/-- A lane is another, and so is the memory: behind the store of its four cells. -/
def Gm.put (z : Gm) (k r rc t tc : Nat) : Gm := { z with R := fun j => if j = k then r else z.R j, RC := fun j => if j = k then rc else z.RC j, T := fun j => if j = k then some t else z.T j, TC := fun j => if j = k then tc else z.TC j }
theorem CM.lane_new {w w6 : World} {B n : Nat} {z : Gm} {c : Cw} (h : CM (fun _ => True) w B n z c) (hB : B ≤ w.heap.size) {k r rc t tc : Nat} {s' : Ln} {m' : List Int} (hk : k < n) (hlen : c.ls.length = n) (hL : LnO w6 w.heap.size r rc t tc s') (hM : OI w6 B (some ⟨z.mb, 0, none⟩) c.mem.length z.mc m') (hm' : m'.length = c.mem.length) (hg : w.grownBy w6 (some z.mb)) :
    CM (fun _ => True) (w6.setCells z.lb (k * 4) [.slice (some ⟨r, 0, none⟩) 4 rc, .int .i64 s'.pos, .slice (some ⟨t, 0, none⟩) s'.turns.length tc, .bool s'.waits]) B n (z.put k r rc t tc) ⟨c.ls.set k s', m'⟩ ∧
      StC (fun _ => True) B w (w6.setCells z.lb (k * 4) [.slice (some ⟨r, 0, none⟩) 4 rc, .int .i64 s'.pos, .slice (some ⟨t, 0, none⟩) s'.turns.length tc, .bool s'.waits]) := by
  have hl1 : (⟨c.ls.set k s', m'⟩ : Cw).lane k = s' := by simp [Cw.lane, List.getD_eq_getElem?_getD, hlen, hk]
  have hl2 : ∀ i, i ≠ k → (⟨c.ls.set k s', m'⟩ : Cw).lane i = c.lane i := fun i hi => by simp [Cw.lane, List.getD_eq_getElem?_getD, List.getElem?_set_ne (fun e => hi e.symm)]
  obtain ⟨cur, hblk⟩ := h.heap
  obtain ⟨cm, hcm⟩ := OR.heap_ h.mem
  have hmb := OR.base_le h.mem
  have hlm : z.lb ≠ z.mb := fun e => by rw [e, hcm] at hblk; injection hblk with hblk; injection hblk with _ hblk _; exact absurd hblk (by decide)
  have hblk6 : w6.heap[z.lb]? = some (.cells cur 84 (0, 0)) := (hg.block z.lb h.lt.2 (fun e => hlm (by injection e))).trans hblk
  have hrow6 : OR w6 B 84 4 (some ⟨z.lb, 0, none⟩) n z.lc (lanesV z n c.lane) := OR.kept h.row hg (.inr fun e => hlm (by injection e))
  have lr := OR.base_le hL.regs
  have lt := OR.base_le hL.turns
  have oi : ∀ {b A m cc xs}, OI w6 b A m cc xs → OI (w6.setCells z.lb (k * 4) [.slice (some ⟨r, 0, none⟩) 4 rc, .int .i64 s'.pos, .slice (some ⟨t, 0, none⟩) s'.turns.length tc, .bool s'.waits]) b A m cc xs := fun {b A m cc xs} hA => by
    have hne : Value.ownBlock (.slice A m cc) ≠ some z.lb := own_ne hA hblk6 (by decide)
    simp only [World.setCells]
    exact OR.set_other (OR.set_other (OR.set_other (OR.set_other hA (p := ⟨z.lb, _, none⟩) hne _) (p := ⟨z.lb, _, none⟩) hne _) (p := ⟨z.lb, _, none⟩) hne _) (p := ⟨z.lb, _, none⟩) hne _
  have hRlt : ∀ i, i < n → z.R i < w.heap.size := fun i hi => (OR.base_le (h.regs i hi)).2
  have hTlt : ∀ i q, i < n → z.T i = some q → q < w.heap.size := fun i q hi hq => (OR.block (h.turns i hi) q (by rw [own_adr]; exact hq)).2
  refine ⟨⟨?_, fun i hi => ?_, fun i hi => ?_, ?_, fun i hi => ?_, fun i j hi hj => ?_, fun i hi => ?_, fun i j hi hj => ?_, fun i j q hi hj => ?_, trivial, trivial, fun _ _ => trivial, fun _ _ _ _ => trivial, fun _ _ => trivial⟩, ⟨?_, fun i cs ty h1 h2 hi => ?_, fun q hq hn => absurd trivial hn⟩⟩
  · have e := lanesV_put (z := z) (z' := z.put k r rc t tc) (n := n) (f := c.lane) (f' := (⟨c.ls.set k s', m'⟩ : Cw).lane) hk (fun i hi hne q hq => by
      rw [hl2 i hne]
      match q with
      | 0 => simp [laneCell, Gm.put, hne]
      | 1 => rfl
      | 2 => simp [laneCell, Gm.put, hne]
      | q + 3 => rfl)
    rw [← e, hl1]
    have d0 := (OR.at0 hrow6).2.2 (k * 4) (laneCell (z.put k r rc t tc) k s' 0)
    have d1 := (OR.at0 d0).2.2 (k * 4 + 1) (laneCell (z.put k r rc t tc) k s' 1)
    have d2 := (OR.at0 d1).2.2 (k * 4 + 2) (laneCell (z.put k r rc t tc) k s' 2)
    have d3 := (OR.at0 d2).2.2 (k * 4 + 3) (laneCell (z.put k r rc t tc) k s' 3)
    simp only [World.setCells]
    have f0 : laneCell (z.put k r rc t tc) k s' 0 = .slice (some ⟨r, 0, none⟩) 4 rc := by simp [laneCell, Gm.put]
    have f2 : laneCell (z.put k r rc t tc) k s' 2 = .slice (some ⟨t, 0, none⟩) s'.turns.length tc := by simp [laneCell, Gm.put, adr]
    rw [f0, f2] at d3 ⊢
    exact d3
  · by_cases e : i = k
    · subst e
      rw [hl1]
      simp only [Gm.put, if_true]
      exact oi (OR.mono hL.regs hB)
    · rw [hl2 i e]
      simp only [Gm.put, e, if_false]
      exact oi (OR.kept (h.regs i hi) hg (.inr fun e2 => h.rm i hi (by injection e2)))
  · by_cases e : i = k
    · subst e
      rw [hl1]
      simp only [Gm.put, if_true, adr, Option.map_some]
      exact oi (OR.mono hL.turns hB)
    · rw [hl2 i e]
      simp only [Gm.put, e, if_false]
      refine oi (OR.kept (h.turns i hi) hg (.inr fun e2 => ?_))
      rw [own_adr] at e2
      exact h.tm i hi e2
  · show OI _ B (some ⟨z.mb, 0, none⟩) m'.length z.mc m'
    rw [hm']
    exact oi hM
  · show (if i = k then r else z.R i) ≠ z.mb
    by_cases e : i = k
    · rw [if_pos e]; omega
    · rw [if_neg e]; exact h.rm i hi
  · show (if i = k then r else z.R i) = (if j = k then r else z.R j) → i = j
    by_cases e1 : i = k <;> by_cases e2 : j = k <;> simp only [e1, e2, if_true, if_false]
    · intro _; trivial
    · intro e; have := hRlt j hj; omega
    · intro e; have := hRlt i hi; omega
    · exact h.rr i j hi hj
  · show (if i = k then some t else z.T i) ≠ some z.mb
    by_cases e : i = k
    · rw [if_pos e]; intro e2; injection e2 with e2; omega
    · rw [if_neg e]; exact h.tm i hi
  · show (if i = k then some t else z.T i) ≠ some (if j = k then r else z.R j)
    by_cases e1 : i = k <;> by_cases e2 : j = k <;> simp only [e1, e2, if_true, if_false]
    · intro e; injection e with e; exact hL.ne e.symm
    · intro e; injection e with e; have := hRlt j hj; omega
    · intro e; have := hTlt i r hi e; omega
    · exact h.tr i j hi hj
  · show (if i = k then some t else z.T i) = some q → (if j = k then some t else z.T j) = some q → i = j
    by_cases e1 : i = k <;> by_cases e2 : j = k <;> simp only [e1, e2, if_true, if_false]
    · intro _ _; trivial
    · intro e e3; injection e with e; have := hTlt j q hj e3; omega
    · intro e e3; injection e3 with e3; have := hTlt i q hi e; omega
    · exact h.tt i j q hi hj
  · have hb : Below B w w6 := ⟨hg.os, hg.tape, hg.output, hg.size, fun q hq => hg.block q (by omega) (fun e => by injection e with e; omega)⟩
    simp only [World.setCells]
    exact (((hb.setCell h.lt.1 _).setCell h.lt.1 _).setCell h.lt.1 _).setCell h.lt.1 _
  · have h3 : w6.heap[i]? = some (.cells cs ty (0, 0)) := (hg.block i (lt_of_block hi) (fun e => type_ne hi hcm h1 (by injection e))).trans hi
    have hne := type_ne h3 hblk6 h2
    simp only [World.setCells]
    rw [heap_set_other hne, heap_set_other hne, heap_set_other hne, heap_set_other hne]
    exact h3

end Go.Proofs.YtelbfeidpcojmaaGreat
