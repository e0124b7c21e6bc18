/- The reference's DropDead. -/
import Derived.Test.YtcpjhlkcfohkiaaLive5
namespace Go.Proofs.Ytcpjhlkcfohkiaa
open Go.RowKit
set_option linter.unusedVariables false
set_option linter.unusedSimpArgs false

theorem dropF_more : ∀ (n : Nat) (l : List Cd), l.length ≤ n → dropF (n + 1) l = dropF n l
  | 0, l, h => by
    obtain rfl : l = [] := List.eq_nil_of_length_eq_zero (by omega)
    simp [dropF, deadN]
  | n + 1, l, h => by
    by_cases hd : deadN l l.length = []
    · simp [dropF, hd]
    · have hl := keep_lt hd
      have ih := dropF_more n (keepN l l.length) (by omega)
      show (if deadN l l.length = [] then l else dropF (n + 1) (keepN l l.length)) = (if deadN l l.length = [] then l else dropF n (keepN l l.length))
      rw [if_neg hd, if_neg hd, ih]
theorem dropF_from : ∀ (d n : Nat) (l : List Cd), l.length ≤ n → dropF (n + d) l = dropF n l
  | 0, _, _, _ => rfl
  | d + 1, n, l, h => by rw [show n + (d + 1) = (n + d) + 1 by omega, dropF_more (n + d) l (by omega), dropF_from d n l h]
/-- A program until nothing is dead. -/
noncomputable def dropD (l : List Cd) : List Cd := dropF l.length l
theorem dropD_done {l : List Cd} (h : deadN l l.length = []) : dropD l = l := by
  unfold dropD
  cases hn : l.length with
  | zero => rfl
  | succ n => rw [hn] at h; simp [dropF, hn, h]
theorem dropD_more {l : List Cd} (h : deadN l l.length ≠ []) : dropD l = dropD (keepN l l.length) := by
  have hl := keep_lt h
  unfold dropD
  obtain ⟨n, hn⟩ : ∃ n, l.length = n + 1 := ⟨l.length - 1, by omega⟩
  have e : dropF l.length l = dropF n (keepN l l.length) := by
    rw [hn]
    show (if deadN l l.length = [] then l else dropF n (keepN l l.length)) = _
    rw [if_neg h, hn]
  rw [e, show n = (keepN l l.length).length + (n - (keepN l l.length).length) by omega, dropF_from _ _ _ (Nat.le_refl _)]

def DDRel (w : World) (l : List Cd) (xv dv : Value) (wr : World) : Prop :=
  ∃ (X : List Cd) (A : Option Addr) (c : Nat) (Ad : Option Addr) (cd : Nat), xv = .slice A X.length c ∧ dv = .slice Ad (deadL X).length cd ∧ OC wr w.heap.size A X.length c X ∧ RdI wr wr.heap.size Ad (deadL X) ∧ Below w.heap.size w wr ∧
    Hid (pv X = true) ∧ Hid (dropD l = dropD X) ∧ X.length ≤ 40

def DIRel (wo : World) (X : List Cd) (yv av kv : Value) (wr : World) : Prop :=
  ∃ (k : Nat) (A : Option Addr) (c : Nat), k ≤ X.length ∧ kv = .int .i64 k ∧ av = .int .i64 (deadN X k).length ∧ yv = .slice A (keepN X k).length c ∧ OC wr wo.heap.size A (keepN X k).length c (keepN X k) ∧ Below wo.heap.size wo wr

set_option maxRecDepth 100000 in
set_option maxHeartbeats 8000000 in
theorem sDropDead_c (A : Option Addr) (c : Nat) (l : List Cd) (w : World) (hA : RdC w w.heap.size A l) (hl : l.length ≤ 1000000000) (hc0 : A = none → c = 0) :
    Calls Try.prog 67 #[.slice A l.length c] w (RetC w (dropDeadL l)) := by
  cases hp : pv l with
  | false =>
    have HD := Lib.hid (show dropDeadL l = [] by simp [dropDeadL, hp])
    go_enter Try.func67, Try.ntmps67
    go_wp2_with fail
    refine (sProgramValid_c A c l w hA hl).mono ?_
    rintro e w1 ⟨rfl, hb1⟩
    rw [hp]
    go_wp2
    go_ret
    rw [HD.out]
    exact RetC.of (OC.empty_ w1 _ hb1.size) (hb1.alloc hb1.size _)
  | true =>
    have HP := Lib.hid hp
    have h40 := (pv_iff.1 hp).1
    have HD := Lib.hid (show dropDeadL l = dropD l by simp [dropDeadL, hp, dropD])
    go_enter Try.func67, Try.ntmps67
    go_wp2_with fail
    refine (sProgramValid_c A c l w hA hl).mono ?_
    rintro e w1 ⟨rfl, hb1⟩
    rw [hp]
    clear hp
    have hb2 := hb1.alloc hb1.size (.cells #[] 45)
    have HO := Lib.hid (OC.empty_ w1 w.heap.size hb1.size)
    have HA2 := Lib.hid ((hA.below hb2).more hb2.size)
    go_wp2_with (at_builtin; refine app_cs rfl _ _ rfl w.heap.size _ _ _ _ HO.out rfl w1.heap.size.succ A l.length c l rfl rfl hc0 ?hr ?hn ?hb ?_)
    case hr => have := HA2.out; simpa using this
    case hn => omega
    case hb => exact hb2.size
    intro A' c' w3 ho3 hg3
    have hb3 := hb2.grown hg3 hb2.size (fun k hk => (OR.block HO.out k hk).1)
    replace ho3 : OC w3 w.heap.size A' l.length c' l := by simpa using ho3
    have hs3 := hb3.size
    clear hb2 hg3
    go_wp2_with fail
    refine (sDeadPlaces_c A' c' l w3 (OC.rd ho3) HP.out).mono ?_
    rintro e w4 ⟨Ad, cd, rfl, hod, hb4⟩
    have hbW4 := below_trans hb3 (Nat.le_refl _) hb4
    have ho4 := OR.below ho3 hb4 (Nat.le_refl _)
    replace hod := OwI.rd hod
    clear ho3 hb3 hb4
    go_wp2
    go_loopw [3, 4] (fun xv dv wr => DDRel w l xv dv wr) (fun xv _ _ => match xv with | .slice _ n _ => n | _ => 0)
    case atStart => exact ⟨l, A', c', Ad, cd, rfl, rfl, ho4, hod, hbW4, HP, Lib.hid rfl, h40⟩
    case round =>
      clear ho4 hod hbW4 hs3
      obtain ⟨X, A1, c1, A2, c2, rfl, rfl, hoX, hrD, hb, HPX, HDX, hX40⟩ := hrel
      have hs := hb.size
      have hdl : (deadL X).length = (deadN X X.length).length := by simp [deadL]
      have hdn := deadN_len X X.length
      by_cases hd0 : deadN X X.length = []
      · have hz : (deadL X).length = 0 := by rw [hdl, hd0]; rfl
        have HE := Lib.hid (show dropDeadL l = X by rw [HD.out, HDX.out, dropD_done hd0])
        rw [hz]
        clear hd0 hz hdl hdn
        go_wp2
        go_ret
        rw [HE.out]
        exact RetC.of hoX hb
      · have hpos : 0 < (deadN X X.length).length := List.length_pos_iff.2 hd0
        have hkl := keep_lt hd0
        have HE := Lib.hid (dropD_more hd0)
        rw [hdl]
        generalize hdnn : (deadN X X.length).length = dn at *
        have HDN := Lib.hid hdnn
        have HKL := Lib.hid hkl
        clear hd0 hdnn hdl
        obtain ⟨wo, rfl⟩ : ∃ wo, wo = wr := ⟨_, rfl⟩
        have hoY := OC.empty_ wo wo.heap.size (Nat.le_refl _)
        have hbY := (Below.refl wo.heap.size wo).alloc (Nat.le_refl _) (.cells #[] 45)
        go_wp2_with fail
        go_loopw [5, 6, 7] (fun yv av kv wr => DIRel wo X yv av kv wr) (fun _ _ kv _ => X.length - (intOf kv).toNat)
        case atStart => exact ⟨0, _, 0, Nat.zero_le _, rfl, rfl, rfl, hoY, hbY⟩
        case round =>
          clear hoY hbY
          obtain ⟨k, Ay, cy, hk, rfl, rfl, rfl, hoy, hby⟩ := hrel
          have hsy := hby.size
          by_cases hlt : k < X.length
          · obtain ⟨by1, by2⟩ := deadN_next hlt
            obtain ⟨b, off, x, e1, hbB, hx, d0, d1, d2, d3⟩ := ((OC.rd hoX).below hby).at_ hlt
            subst e1
            have hcd := cdAt_get hx
            have HX := Lib.hid hx
            have HSD := Lib.hid (deadN_succ X k)
            have HSK := Lib.hid (keepN_succ X k)
            have hkn := keepN_len X k
            have hdk : (deadN X k).length ≤ dn := by
              obtain ⟨r, e, _⟩ := deadN_pre X k X.length hk
              have := congrArg List.length e
              rw [List.length_append, HDN.out] at this
              omega
            have hdL : (deadL X).length = dn := by rw [show (deadL X).length = (deadN X X.length).length by simp [deadL], HDN.out]
            have HDL := Lib.hid hdL
            clear hx hdL
            cases hb0 : deadB X k with
            | true =>
              have h1 := by1 hb0
              have hat : (deadN X k).length < dn := by rw [← HDN.out]; exact (List.getElem?_eq_some_iff.1 h1).1
              have hI : (deadL X)[(deadN X k).length]? = some (k : Int) := by unfold deadL; rw [List.getElem?_map, h1]; rfl
              obtain ⟨b2, off2, v2, rfl, -, hv2, dd⟩ := (hrD.below hby).at_ (show (deadN X k).length < (deadL X).length by rw [HDL.out]; exact hat)
              rw [hI] at hv2
              injection hv2 with hv2
              subst hv2
              have hatI : (((deadN X k).length : Nat) : Int) < (dn : Int) := by omega
              have hSK := Lib.hid (show keepN X (k + 1) = keepN X k by rw [HSK.out, hb0]; simp)
              have hSD := Lib.hid (show (deadN X (k + 1)).length = (deadN X k).length + 1 by rw [HSD.out, hb0]; simp)
              clear hcd hb0 by1 by2 h1 hI
              go_wp2
              go_roundw
              case rel => exact ⟨k + 1, Ay, cy, by omega, by go_num, by rw [hSD.out]; go_num, by rw [hSK.out], by rw [hSK.out]; exact hoy, hby⟩
              case measure => simp [intOf]; omega
            | false =>
              by_cases hat : (deadN X k).length < dn
              · have hlt2 : (deadN X k).length < (deadN X X.length).length := by rw [HDN.out]; exact hat
                have h1 : (deadN X X.length)[(deadN X k).length]? = some ((deadN X X.length)[(deadN X k).length]) := List.getElem?_eq_getElem hlt2
                generalize (deadN X X.length)[(deadN X k).length] = j at h1
                have hjk := by2 hb0 j h1
                have hI : (deadL X)[(deadN X k).length]? = some (j : Int) := by unfold deadL; rw [List.getElem?_map, h1]; rfl
                obtain ⟨b2, off2, v2, rfl, -, hv2, dd⟩ := (hrD.below hby).at_ (show (deadN X k).length < (deadL X).length by rw [HDL.out]; exact hat)
                rw [hI] at hv2
                injection hv2 with hv2
                subst hv2
                have hatI : (((deadN X k).length : Nat) : Int) < (dn : Int) := by omega
                have hne : ((j : Int) == (k : Int)) = false := by rw [beq_eq_false_iff_ne]; omega
                clear h1 hI hjk hlt2
                have HOy := Lib.hid (OR.alloc hoy (.cells #[.int .i64 x.op, .int .i64 x.a, .int .i64 x.b, .int .i64 x.c] 45))
                have hSK := Lib.hid (show keepN X (k + 1) = keepN X k ++ [x] by rw [HSK.out, hb0, hcd]; rfl)
                have hSD := Lib.hid (show deadN X (k + 1) = deadN X k by rw [HSD.out, hb0]; simp)
                have hlen : (keepN X (k + 1)).length = (keepN X k).length + 1 := by rw [hSK.out]; simp
                have hkl1 : (keepN X k).length ≤ 40 := by omega
                clear hcd hb0 by1 by2
                go_wp2_with (at_builtin; refine app_code rfl _ _ rfl wo.heap.size Ay _ cy _ HOy.out rfl x wr.heap.size 1 rfl ?h0 ?h1 ?h2 ?h3 ?hn ?hb ?_)
                first | (case h0 => simp [go_sem]) | skip
                first | (case h1 => simp [go_sem]) | skip
                first | (case h2 => simp [go_sem]) | skip
                first | (case h3 => simp [go_sem]) | skip
                case hn => omega
                case hb => first | omega | (simp; omega)
                intro A' c' w5 ho5 hg5
                have hb5 := below_app hby hsy hoy (Nat.le_refl _) hg5
                go_wp2
                go_roundw
                case rel => exact ⟨k + 1, A', c', by omega, by go_num, by rw [hSD.out], by rw [hlen], by rw [hlen, hSK.out]; exact ho5, hb5⟩
                case measure => simp [intOf]; omega
              · have hatI : ¬ (((deadN X k).length : Nat) : Int) < (dn : Int) := by omega
                have HOy := Lib.hid (OR.alloc hoy (.cells #[.int .i64 x.op, .int .i64 x.a, .int .i64 x.b, .int .i64 x.c] 45))
                have hSK := Lib.hid (show keepN X (k + 1) = keepN X k ++ [x] by rw [HSK.out, hb0, hcd]; rfl)
                have hSD := Lib.hid (show deadN X (k + 1) = deadN X k by rw [HSD.out, hb0]; simp)
                have hlen : (keepN X (k + 1)).length = (keepN X k).length + 1 := by rw [hSK.out]; simp
                have hkl1 : (keepN X k).length ≤ 40 := by omega
                clear hcd hb0 by1 by2
                go_wp2_with (at_builtin; refine app_code rfl _ _ rfl wo.heap.size Ay _ cy _ HOy.out rfl x wr.heap.size 1 rfl ?h0 ?h1 ?h2 ?h3 ?hn ?hb ?_)
                first | (case h0 => simp [go_sem]) | skip
                first | (case h1 => simp [go_sem]) | skip
                first | (case h2 => simp [go_sem]) | skip
                first | (case h3 => simp [go_sem]) | skip
                case hn => omega
                case hb => first | omega | (simp; omega)
                intro A' c' w5 ho5 hg5
                have hb5 := below_app hby hsy hoy (Nat.le_refl _) hg5
                go_wp2
                go_roundw
                case rel => exact ⟨k + 1, A', c', by omega, by go_num, by rw [hSD.out], by rw [hlen], by rw [hlen, hSK.out]; exact ho5, hb5⟩
                case measure => simp [intOf]; omega
          · obtain rfl : k = X.length := by omega
            have hkp := Lib.hid (keep_ok HPX.out)
            have hbx := below_trans hb (Nat.le_refl _) hby
            go_wp2_with fail
            refine (sDeadPlaces_c Ay cy (keepN X X.length) wr (OC.rd hoy) hkp.out).mono ?_
            rintro e w6 ⟨A6, c6, rfl, hod6, hb6⟩
            have hb7 := below_trans hbx (Nat.le_refl _) hb6
            have ho7 := OR.below hoy hb6 (Nat.le_refl _)
            go_wp2
            go_roundw
            case rel => exact ⟨keepN X X.length, Ay, cy, A6, c6, rfl, rfl, OR.mono ho7 hs, OwI.rd hod6, hb7, hkp, Lib.hid (by rw [HDX.out, HE.out]), by have := HKL.out; omega⟩
            case measure => simp; exact HKL.out
end Go.Proofs.Ytcpjhlkcfohkiaa
