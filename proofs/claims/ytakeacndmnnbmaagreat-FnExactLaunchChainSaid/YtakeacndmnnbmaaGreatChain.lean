/- LaunchChain of both packages. -/
import Derived.Test.YtakeacndmnnbmaaGreatChainLaw
namespace Go.Proofs.YtakeacndmnnbmaaGreat
open Go.RowKit
set_option linter.unusedVariables false
set_option linter.unusedSimpArgs false

/-! ### Slices of programs -/
def progV (As : Nat → Option Addr) (cs : Nat → Nat) (ps : List (List Cd)) : List Value := (List.range ps.length).map fun i => .slice (As i) (ps.getD i []).length (cs i)
theorem progV_get {As : Nat → Option Addr} {cs : Nat → Nat} {ps : List (List Cd)} {i : Nat} (h : i < ps.length) : (progV As cs ps)[i]? = some (.slice (As i) (ps.getD i []).length (cs i)) := by simp [progV, h]
structure RdP (w : World) (B : Nat) (P : Option Addr) (As : Nat → Option Addr) (cs : Nat → Nat) (ps : List (List Cd)) : Prop where
  rows : Reads w B 1 P ps.length (progV As cs ps)
  inn : ∀ i, i < ps.length → RdC w B (As i) (ps.getD i [])
section
variable {w w' : World} {B B' : Nat} {P : Option Addr} {As : Nat → Option Addr} {cs : Nat → Nat} {ps : List (List Cd)}
theorem RdP.below (h : RdP w B P As cs ps) (hb : Below B w w') : RdP w' B P As cs ps := ⟨h.rows.below hb, fun i hi => (h.inn i hi).below hb⟩
theorem RdP.more (h : RdP w B P As cs ps) (hB : B ≤ B') : RdP w B' P As cs ps := ⟨h.rows.more hB, fun i hi => (h.inn i hi).more hB⟩
theorem RdP.at_ (h : RdP w B P As cs ps) {i : Nat} (hi : i < ps.length) : ∃ b off, P = some ⟨b, off, none⟩ ∧ b < B ∧ w.cell? ⟨b, off + i, none⟩ = some (.slice (As i) (ps.getD i []).length (cs i)) := by
  obtain ⟨b, off, e, hb, hc⟩ := h.rows.2 (by omega)
  exact ⟨b, off, e, hb, hc i _ (progV_get hi)⟩
theorem RdP.take (h : RdP w B P As cs ps) (k : Nat) (hk : k ≤ ps.length) : RdP w B P As cs (ps.take k) := by
  have hl : (ps.take k).length = k := by simp; omega
  have hg : ∀ i, i < k → (ps.take k).getD i [] = ps.getD i [] := fun i hi => by
    simp [List.getD_eq_getElem?_getD, List.getElem?_take, hi]
  refine ⟨⟨by simp [progV], fun hp => ?_⟩, fun i hi => ?_⟩
  · obtain ⟨b, off, e, hb, hc⟩ := h.rows.2 (by omega)
    refine ⟨b, off, e, hb, fun j u hu => hc j u ?_⟩
    have hj : j < (ps.take k).length := by
      have := (List.getElem?_eq_some_iff.1 hu).1
      simpa [progV] using this
    rw [progV_get hj, hg j (by omega)] at hu
    rw [progV_get (by omega)]
    exact hu
  · rw [hl] at hi
    rw [hg i hi]
    exact h.inn i (by omega)
end

def ChP (w : World) (ps : List (List Cd)) (n : Int) (m : List Int) (e : Ending) (w' : World) : Prop :=
  ∃ (M : Option Addr) (c : Nat), e = .returned (.tuple #[.slice M (chainM ps n m).length c, .int .i64 (chainN ps n m : Nat)]) ∧ OwI w' w.heap.size M (chainM ps n m).length c (chainM ps n m) ∧ Below w.heap.size w w'
def CLRel (w : World) (ps : List (List Cd)) (n : Int) (m : List Int) (cv kv : Value) (wr : World) : Prop :=
  ∃ (i : Nat) (X : Option Addr) (xc : Nat) (x : List Int), i ≤ ps.length ∧ kv = .int .i64 i ∧ cv = .slice X x.length xc ∧ OwI wr w.heap.size X x.length xc x ∧ x.length ≤ 32 ∧ Below w.heap.size w wr ∧ Hid (chainGo n (ps.drop i) x i = chainGo n ps m 0)
theorem OwI.mono {w : World} {base base' n c : Nat} {A : Option Addr} {l : List Int} (h : OwI w base A n c l) (hb : base' ≤ base) : OwI w base' A n c l := h.imp id (fun h => OR.mono h hb)
theorem chain_step {n : Int} {ps : List (List Cd)} {i : Nat} (hi : i < ps.length) (x : List Int) : chainGo n (ps.drop i) x i = if reasonOf (ps.getD i []) n x = 0 then chainGo n (ps.drop (i + 1)) (launchM (ps.getD i []) n x) (i + 1) else (x, i) := by
  rw [List.drop_eq_getElem_cons hi]
  have e : ps.getD i [] = ps[i] := by simp [List.getD_eq_getElem?_getD, hi]
  rw [e]
  rfl
theorem chain_eqs (ps : List (List Cd)) (n : Int) (m : List Int) : (chainOk ps n m = false → chainM ps n m = [] ∧ chainN ps n m = 0) ∧ (chainOk ps n m = true → chainM ps n m = (chainGo n ps m 0).1 ∧ chainN ps n m = (chainGo n ps m 0).2) :=
  ⟨chain_bad, fun h => by simp [chainM, chainN, h]⟩

set_option maxRecDepth 100000 in
set_option maxHeartbeats 4000000 in
theorem iLaunchChain_c {As : Nat → Option Addr} {cs : Nat → Nat} (P Am : Option Addr) (pc cm : Nat) (ps : List (List Cd)) (n : Int) (m : List Int) (w : World) (hP : RdP w w.heap.size P As cs ps) (hM : RdI w w.heap.size Am m) (hps : ∀ i, i < ps.length → (ps.getD i []).length ≤ 1000000000) (hpl : ps.length ≤ 1000000000) (hml : m.length ≤ 1000000000) :
    Calls Tryz.prog 24 #[.slice P ps.length pc, .int .i64 n, .slice Am m.length cm] w (ChP w ps n m) := by
  have HE := Lib.hid (chain_eqs ps n m)
  have HK := Lib.hid (show chainOk ps n m = (inR n 1 8 && memOk m && decide (ps.length ≤ 6)) from rfl)
  have HMV := Lib.hid (fun W a => iMemoryValid_c Am cm m W a hml)
  have HMO := Lib.hid (fun h : memOk m = true => memOk_iff.1 h)
  have HLN := Lib.hid (isLanes_c' n w)
  have HPS := Lib.hid hps
  unfold ChP
  generalize chainM ps n m = V at *
  generalize chainN ps n m = N at *
  generalize chainOk ps n m = ok at *
  generalize memOk m = mo at *
  generalize inR n 1 8 = nl at *
  clear hps
  cases nl with
  | false =>
    obtain ⟨rfl, rfl⟩ := HE.out.1 (by rw [HK.out]; rfl)
    clear HE HK
    go_enter Tryz.func24, Tryz.ntmps24
    go_wp2_with fail
    refine HLN.out.mono ?_
    rintro e w1 ⟨rfl, rfl⟩
    go_wp2
    go_ret2
    exact ⟨none, 0, rfl, .inl ⟨rfl, rfl⟩, Below.refl _ _⟩
  | true =>
    cases mo with
    | false =>
      obtain ⟨rfl, rfl⟩ := HE.out.1 (by rw [HK.out]; rfl)
      clear HE HK
      go_enter Tryz.func24, Tryz.ntmps24
      go_wp2_with fail
      refine HLN.out.mono ?_
      rintro e w1 ⟨rfl, rfl⟩
      go_wp2_with fail
      refine (HMV.out w hM).mono ?_
      rintro e w1 ⟨rfl, rfl⟩
      go_wp2
      go_ret2
      exact ⟨none, 0, rfl, .inl ⟨rfl, rfl⟩, Below.refl _ _⟩
    | true =>
      by_cases h6 : ps.length ≤ 6
      · have h6I : ¬ (6 : Int) < (ps.length : Int) := by omega
        obtain ⟨hV, hN⟩ := HE.out.2 (by rw [HK.out]; simp [h6])
        have HV := Lib.hid hV
        have HN := Lib.hid hN
        obtain ⟨-, hm1, hm32⟩ := HMO.out rfl
        obtain ⟨mb0, mo0, y0, rfl, _, _, _⟩ := hM.at_ (k := 0) (by omega)
        clear HE HK hV hN
        go_enter Tryz.func24, Tryz.ntmps24
        go_wp2_with fail
        refine HLN.out.mono ?_
        rintro e w1 ⟨rfl, rfl⟩
        go_wp2_with fail
        refine (HMV.out w hM).mono ?_
        rintro e w1 ⟨rfl, rfl⟩
        go_wp2_with fail
        refine (cloneI_c _ cm m w hM hml (fun e => by cases e)).mono ?_
        rintro e w2 ⟨X, xc, rfl, oX, hb2⟩
        go_wp2
        go_loopw [8, 30] (fun cv kv wr => CLRel w ps n m cv kv wr) (fun _ kv _ => ps.length - (intOf kv).toNat)
        case atStart => exact ⟨0, X, xc, m, Nat.zero_le _, rfl, rfl, .inr oX, hm32, hb2, Lib.hid rfl⟩
        case round =>
          clear oX hb2
          obtain ⟨i, X, xc, x, hi, rfl, rfl, oX, hx32, hb, hgo⟩ := hrel
          by_cases hlt : i < ps.length
          · have hiI : (i : Int) < (ps.length : Int) := by omega
            have hPr := (hP.below hb).more hb.size
            obtain ⟨pb, po, rfl, hpB, p0⟩ := hPr.at_ hlt
            have hin := hPr.inn i hlt
            have hpl2 := HPS.out i hlt
            have HS := Lib.hid (chain_step (n := n) hlt x)
            have HRC := Lib.hid (reason_cases (ps.getD i []) n x)
            have HIL := Lib.hid (fun W a b => iLaunch_c (As i) X (cs i) xc (ps.getD i []) n x W a b hpl2 (by omega))
            have HLG := Lib.hid (fun h : reasonOf (ps.getD i []) n x = 0 => (launch_good h).2.2)
            have hrx := OwI.rd oX
            unfold LaP at HIL
            generalize ps.getD i [] = p at *
            generalize hre : reasonOf p n x = rs at *
            generalize hVe : launchM p n x = y at *
            clear hVe hre
            go_wp2_with fail
            refine (HIL.out wr hin hrx).mono ?_
            rintro e w3 ⟨M, c, rfl, oM, hb3⟩
            have hb4 := below_trans hb (Nat.le_refl _) hb3
            have oX3 := Lib.hid (oX.below hb3 (Nat.le_refl _))
            have oM3 := Lib.hid (oM.mono hb.size)
            clear oX oM hb3 hin hrx
            rcases HRC.out with ⟨rfl, -⟩ | ⟨-, -, -, rfl | rfl | rfl⟩
            · have hg := hgo.out
              rw [HS.out] at hg
              have e1 : V = x := by rw [HV.out, ← hg]; rfl
              have e2 : N = i := by rw [HN.out, ← hg]; rfl
              have E1 := Lib.hid e1
              have E2 := Lib.hid e2
              clear hg e1 e2
              go_wp2
              go_ret2
              rw [E1.out, E2.out]
              exact ⟨X, xc, rfl, oX3.out, hb4⟩
            · have hg := hgo.out
              rw [HS.out, if_pos rfl] at hg
              have HG := Lib.hid hg
              have hyl := HLG.out rfl
              clear hg
              have hy32 : y.length ≤ 32 := by omega
              clear hyl
              go_wp2
              go_roundw
              case rel => exact ⟨i + 1, M, c, y, by omega, by go_num, rfl, oM3.out, hy32, hb4, HG⟩
              case measure => simp [intOf]; omega
            · have hg := hgo.out
              rw [HS.out] at hg
              have e1 : V = x := by rw [HV.out, ← hg]; rfl
              have e2 : N = i := by rw [HN.out, ← hg]; rfl
              have E1 := Lib.hid e1
              have E2 := Lib.hid e2
              clear hg e1 e2
              go_wp2
              go_ret2
              rw [E1.out, E2.out]
              exact ⟨X, xc, rfl, oX3.out, hb4⟩
            · have hg := hgo.out
              rw [HS.out] at hg
              have e1 : V = x := by rw [HV.out, ← hg]; rfl
              have e2 : N = i := by rw [HN.out, ← hg]; rfl
              have E1 := Lib.hid e1
              have E2 := Lib.hid e2
              clear hg e1 e2
              go_wp2
              go_ret2
              rw [E1.out, E2.out]
              exact ⟨X, xc, rfl, oX3.out, hb4⟩
          · obtain rfl : i = ps.length := by omega
            have hg := hgo.out
            rw [List.drop_eq_nil_of_le (Nat.le_refl _)] at hg
            have E1 := Lib.hid (show V = x by rw [HV.out, ← hg]; rfl)
            have E2 := Lib.hid (show N = ps.length by rw [HN.out, ← hg]; rfl)
            have oX3 := Lib.hid oX
            clear hg oX
            go_wp2
            go_ret2
            rw [E1.out, E2.out]
            exact ⟨X, xc, rfl, oX3.out, hb⟩
      · have h6I : (6 : Int) < (ps.length : Int) := by omega
        obtain ⟨rfl, rfl⟩ := HE.out.1 (by rw [HK.out]; simp [h6])
        clear HE HK
        go_enter Tryz.func24, Tryz.ntmps24
        go_wp2_with fail
        refine HLN.out.mono ?_
        rintro e w1 ⟨rfl, rfl⟩
        go_wp2_with fail
        refine (HMV.out w hM).mono ?_
        rintro e w1 ⟨rfl, rfl⟩
        go_wp2
        go_ret2
        exact ⟨none, 0, rfl, .inl ⟨rfl, rfl⟩, Below.refl _ _⟩

set_option maxRecDepth 100000 in
set_option maxHeartbeats 4000000 in
theorem sLaunchChain_c {As : Nat → Option Addr} {cs : Nat → Nat} (P Am : Option Addr) (pc cm : Nat) (ps : List (List Cd)) (n : Int) (m : List Int) (w : World) (hP : RdP w w.heap.size P As cs ps) (hM : RdI w w.heap.size Am m) (hps : ∀ i, i < ps.length → (ps.getD i []).length ≤ 1000000000) (hpl : ps.length ≤ 1000000000) (hml : m.length ≤ 1000000000) :
    Calls Tryz.prog 26 #[.slice P ps.length pc, .int .i64 n, .slice Am m.length cm] w (ChP w ps n m) := by
  have HE := Lib.hid (chain_eqs ps n m)
  have HK := Lib.hid (show chainOk ps n m = (inR n 1 8 && memOk m && decide (ps.length ≤ 6)) from rfl)
  have HMV := Lib.hid (fun W a => sMemoryValid_c Am cm m W a hml)
  have HMO := Lib.hid (fun h : memOk m = true => memOk_iff.1 h)
  have HLN := Lib.hid (l1In_c n 1 8 w)
  have HPS := Lib.hid hps
  unfold ChP
  generalize chainM ps n m = V at *
  generalize chainN ps n m = N at *
  generalize chainOk ps n m = ok at *
  generalize memOk m = mo at *
  generalize inR n 1 8 = nl at *
  clear hps
  cases mo with
  | false =>
    obtain ⟨rfl, rfl⟩ := HE.out.1 (by rw [HK.out]; cases nl <;> rfl)
    clear HE HK
    go_enter Tryz.func26, Tryz.ntmps26
    go_wp2_with fail
    refine (HMV.out w hM).mono ?_
    rintro e w1 ⟨rfl, rfl⟩
    go_wp2
    go_ret2
    exact ⟨_, _, rfl, .inr (OI.empty_ w w.heap.size (Nat.le_refl _)), Below.alloc (Below.refl _ _) (Nat.le_refl _) _⟩
  | true =>
    cases nl with
    | false =>
      obtain ⟨rfl, rfl⟩ := HE.out.1 (by rw [HK.out]; rfl)
      clear HE HK
      go_enter Tryz.func26, Tryz.ntmps26
      go_wp2_with fail
      refine (HMV.out w hM).mono ?_
      rintro e w1 ⟨rfl, rfl⟩
      go_wp2_with fail
      refine HLN.out.mono ?_
      rintro e w1 ⟨rfl, rfl⟩
      go_wp2
      go_ret2
      exact ⟨_, _, rfl, .inr (OI.empty_ w w.heap.size (Nat.le_refl _)), Below.alloc (Below.refl _ _) (Nat.le_refl _) _⟩
    | true =>
      by_cases h6 : ps.length ≤ 6
      · have h6I : ¬ (6 : Int) < (ps.length : Int) := by omega
        obtain ⟨hV, hN⟩ := HE.out.2 (by rw [HK.out]; simp [h6])
        have HV := Lib.hid hV
        have HN := Lib.hid hN
        obtain ⟨-, hm1, hm32⟩ := HMO.out rfl
        obtain ⟨mb0, mo0, y0, rfl, _, _, _⟩ := hM.at_ (k := 0) (by omega)
        clear HE HK hV hN
        go_enter Tryz.func26, Tryz.ntmps26
        go_wp2_with fail
        refine (HMV.out w hM).mono ?_
        rintro e w1 ⟨rfl, rfl⟩
        go_wp2_with fail
        refine HLN.out.mono ?_
        rintro e w1 ⟨rfl, rfl⟩
        have hM1 := Lib.hid (hM.below ((Below.refl w.heap.size w).alloc (Nat.le_refl _) (.cells #[] 3)))
        have ho0 := Lib.hid (OI.empty_ w w.heap.size (Nat.le_refl _))
        go_wp2_with (at_builtin; refine app_rd 23 3 _ 1 8 Tryz.underlying23 infoInt rfl (by decide) (by decide) rfl _ _ rfl w.heap.size _ 0 0 _ ho0.out rfl w.heap.size ⟨mb0, mo0, none⟩ m.length cm _ rfl hM1.out (ints_one m) ?hn ?hb ?_)
        case hn => omega
        case hb => simp
        intro X xc w2 oX hg1
        have hb2 := below_gr ((Below.refl w.heap.size w).alloc (Nat.le_refl _) (.cells #[] 3)) (by simp) ho0.out (Nat.le_refl _) hg1
        replace oX : OI w2 w.heap.size X m.length xc m := by unfold OI; simpa using oX
        clear hM1 ho0 hg1
        go_wp2
        go_loopw [8, 9] (fun cv kv wr => CLRel w ps n m cv kv wr) (fun _ kv _ => ps.length - (intOf kv).toNat)
        case atStart => exact ⟨0, X, xc, m, Nat.zero_le _, rfl, rfl, .inr oX, hm32, hb2, Lib.hid rfl⟩
        case round =>
          clear oX hb2
          obtain ⟨i, X, xc, x, hi, rfl, rfl, oX, hx32, hb, hgo⟩ := hrel
          by_cases hlt : i < ps.length
          · have hiI : (i : Int) < (ps.length : Int) := by omega
            have hPr := (hP.below hb).more hb.size
            obtain ⟨pb, po, rfl, hpB, p0⟩ := hPr.at_ hlt
            have hin := hPr.inn i hlt
            have hpl2 := HPS.out i hlt
            have HS := Lib.hid (chain_step (n := n) hlt x)
            have HRC := Lib.hid (reason_cases (ps.getD i []) n x)
            have HIL := Lib.hid (fun W a b => sLaunch_c (As i) X (cs i) xc (ps.getD i []) n x W a b hpl2 (by omega))
            have HLG := Lib.hid (fun h : reasonOf (ps.getD i []) n x = 0 => (launch_good h).2.2)
            have hrx := OwI.rd oX
            unfold LaP at HIL
            generalize ps.getD i [] = p at *
            generalize hre : reasonOf p n x = rs at *
            generalize hVe : launchM p n x = y at *
            clear hVe hre
            go_wp2_with fail
            refine (HIL.out wr hin hrx).mono ?_
            rintro e w3 ⟨M, c, rfl, oM, hb3⟩
            have hb4 := below_trans hb (Nat.le_refl _) hb3
            have oX3 := Lib.hid (oX.below hb3 (Nat.le_refl _))
            have oM3 := Lib.hid (oM.mono hb.size)
            clear oX oM hb3 hin hrx
            rcases HRC.out with ⟨rfl, -⟩ | ⟨-, -, -, rfl | rfl | rfl⟩
            · have hg := hgo.out
              rw [HS.out] at hg
              have e1 : V = x := by rw [HV.out, ← hg]; rfl
              have e2 : N = i := by rw [HN.out, ← hg]; rfl
              have E1 := Lib.hid e1
              have E2 := Lib.hid e2
              clear hg e1 e2
              go_wp2
              go_ret2
              rw [E1.out, E2.out]
              exact ⟨X, xc, rfl, oX3.out, hb4⟩
            · have hg := hgo.out
              rw [HS.out, if_pos rfl] at hg
              have HG := Lib.hid hg
              have hyl := HLG.out rfl
              clear hg
              have hy32 : y.length ≤ 32 := by omega
              clear hyl
              go_wp2
              go_roundw
              case rel => exact ⟨i + 1, M, c, y, by omega, by go_num, rfl, oM3.out, hy32, hb4, HG⟩
              case measure => simp [intOf]; omega
            · have hg := hgo.out
              rw [HS.out] at hg
              have e1 : V = x := by rw [HV.out, ← hg]; rfl
              have e2 : N = i := by rw [HN.out, ← hg]; rfl
              have E1 := Lib.hid e1
              have E2 := Lib.hid e2
              clear hg e1 e2
              go_wp2
              go_ret2
              rw [E1.out, E2.out]
              exact ⟨X, xc, rfl, oX3.out, hb4⟩
            · have hg := hgo.out
              rw [HS.out] at hg
              have e1 : V = x := by rw [HV.out, ← hg]; rfl
              have e2 : N = i := by rw [HN.out, ← hg]; rfl
              have E1 := Lib.hid e1
              have E2 := Lib.hid e2
              clear hg e1 e2
              go_wp2
              go_ret2
              rw [E1.out, E2.out]
              exact ⟨X, xc, rfl, oX3.out, hb4⟩
          · obtain rfl : i = ps.length := by omega
            have hg := hgo.out
            rw [List.drop_eq_nil_of_le (Nat.le_refl _)] at hg
            have E1 := Lib.hid (show V = x by rw [HV.out, ← hg]; rfl)
            have E2 := Lib.hid (show N = ps.length by rw [HN.out, ← hg]; rfl)
            have oX3 := Lib.hid oX
            clear hg oX
            go_wp2
            go_ret2
            rw [E1.out, E2.out]
            exact ⟨X, xc, rfl, oX3.out, hb⟩
      · have h6I : (6 : Int) < (ps.length : Int) := by omega
        obtain ⟨rfl, rfl⟩ := HE.out.1 (by rw [HK.out]; simp [h6])
        clear HE HK
        go_enter Tryz.func26, Tryz.ntmps26
        go_wp2_with fail
        refine (HMV.out w hM).mono ?_
        rintro e w1 ⟨rfl, rfl⟩
        go_wp2_with fail
        refine HLN.out.mono ?_
        rintro e w1 ⟨rfl, rfl⟩
        go_wp2
        go_ret2
        exact ⟨_, _, rfl, .inr (OI.empty_ w w.heap.size (Nat.le_refl _)), Below.alloc (Below.refl _ _) (Nat.le_refl _) _⟩
end Go.Proofs.YtakeacndmnnbmaaGreat
