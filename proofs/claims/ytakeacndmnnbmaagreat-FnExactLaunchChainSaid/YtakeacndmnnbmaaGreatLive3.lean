/- The reference's GraphOf: the walk. -/
import Derived.Test.YtakeacndmnnbmaaGreatLive1
namespace Go.Proofs.YtakeacndmnnbmaaGreat
open Go.RowKit
set_option linter.unusedVariables false
set_option linter.unusedSimpArgs false

def GORel (w : World) (l : List Cd) (ov kv : Value) (wr : World) : Prop :=
  ∃ (k : Nat) (A : Option Addr) (c : Nat), k ≤ l.length ∧ kv = .int .i64 k ∧ ov = .slice A k c ∧ GOw wr w.heap.size A k c (succI l) k ∧ Below w.heap.size w wr

set_option maxRecDepth 100000 in
set_option maxHeartbeats 8000000 in
theorem sGraphOf_c (A : Option Addr) (c : Nat) (l : List Cd) (w : World) (hA : RdC w w.heap.size A l) (hp : pv l = true) :
    Calls Tryz.prog 115 #[.slice A l.length c] w (RetG w l) := by
  have h40 := (pv_iff.1 hp).1
  have HP := Lib.hid hp
  go_enter Tryz.func115, Tryz.ntmps115
  go_wp2
  go_loopw [3, 4] (fun ov kv wr => GORel w l ov kv wr) (fun _ kv _ => l.length - (intOf kv).toNat)
  case atStart =>
    refine ⟨0, _, 0, Nat.zero_le _, rfl, rfl, ⟨[], ?_, fun k hk => by omega⟩, (by repeat (first | exact Below.refl _ _ | assumption | refine Below.alloc ?_ (by simp <;> omega) _ | refine Below.setCell ?_ (by simp <;> omega) _ | refine Below.drew ?_))⟩
    exact OR.lit w w.heap.size 23 1 0 #[] (Nat.le_refl _) (by omega) rfl
  case round =>
    obtain ⟨k, A1, c1, hk, rfl, rfl, ho, hb⟩ := hrel
    by_cases hlt : k < l.length
    · go_wp2_with fail
      refine (sProgramValid_c A c l wr ((hA.below hb).more hb.size) (by omega)).mono ?_
      rintro e w1 ⟨rfl, hb1⟩
      rw [hp]
      have ho1 := ho.below hb1 (Nat.le_refl _)
      have hb2 := below_trans hb (Nat.le_refl _) hb1
      have hs2 := hb2.size
      have HI := Lib.hid (succI_succ hlt)
      have hx := cdAt_get' hlt
      have hop := cdAt_op l k
      generalize hcd : cdAt l k = x at hx hop
      clear hcd ho
      obtain ⟨b, off, y, rfl, hbB, hy, d0, d1, d2, d3⟩ := (hA.below hb2).at_ hlt
      have hbB2 : b < w1.heap.size := by omega
      rw [hx] at hy
      injection hy with hy
      subst hy
      have q5 : IntKind.i64.wrap ((k : Int) + 1) = (k : Int) + 1 := IntWalk.i64_in _ (by omega)
      have HX := Lib.hid hx
      clear hx d1 d2 d3
      by_cases hpl : opB x = false ∧ x.op ≠ 12 ∧ x.op ≠ 14
      · obtain ⟨p1, p2, p3⟩ := hpl
        have p4 : x.op ≠ 11 ∧ x.op ≠ 13 := by simpa [opB] using p1
        have e11 : (x.op == 11) = false := beq_eq_false_iff_ne.2 p4.1
        have e13 : (x.op == 13) = false := beq_eq_false_iff_ne.2 p4.2
        have e12 : (x.op == 12) = false := beq_eq_false_iff_ne.2 p2
        have e14 : (x.op == 14) = false := beq_eq_false_iff_ne.2 p3
        have HS := Lib.hid (show succI l k = [(k : Int) + 1] by rw [HI.out, ← hop, e11, e12, e13, e14]; rfl)
        have hG := Lib.hid (GOw.below ho1 ((Below.refl w1.heap.size w1).alloc (Nat.le_refl _) (.cells #[.int .i64 ((k : Int) + 1)] 3)) (Nat.le_refl _))
        have hI := Lib.hid (show OI (w1.alloc (.cells #[.int .i64 ((k : Int) + 1)] 3)) w.heap.size (some ⟨w1.heap.size, 0, none⟩) (succI l k).length 1 (succI l k) by rw [HS.out]; exact int_lit w1 _ hs2 _)
        have hN : 1 = (succI l k).length := by rw [HS.out]; rfl
        have HN := Lib.hid hN
        clear hN p1 p2 p3 p4
        go_wp2_with (at_builtin; refine app_g rfl _ _ rfl w.heap.size A1 k c1 (succI l) rfl (some ⟨w1.heap.size, 0, none⟩) 1 1 (w1.alloc (.cells #[.int .i64 ((k : Int) + 1)] 3)) rfl (w1.heap.size + 1) (by simp) rfl hG.out HN.out hI.out ?hn ?hb ?_)
        case hn => omega
        case hb => simp; omega
        intro A2 c2 w2 hg2 hgr
        have hb9 : Below w.heap.size w w2 := (hb2.alloc hs2 (.cells #[.int .i64 ((k : Int) + 1)] 3)).alloc (by simp; omega) (.cells #[.slice (some ⟨w1.heap.size, 0, none⟩) 1 1] 23) |>.grown hgr (by simp; omega) (fun j hj => by obtain ⟨vs, hv, _⟩ := ho1; exact (OR.block hv j hj).1)
        go_wp2
        go_roundw
        case rel => exact ⟨k + 1, A2, c2, by omega, by go_num, rfl, hg2, hb9⟩
        case measure => simp [intOf]; omega
      · have hop3 : x.op = 11 ∨ x.op = 13 ∨ x.op = 12 ∨ x.op = 14 := by
          simp [opB] at hpl
          omega
        rcases hop3 with h11 | h13 | h12 | h14
        · have e11 : (x.op == 11) = true := beq_iff_eq.2 h11
          have hbo : opB x = true := by simp [opB, h11]
          have HS := Lib.hid (show succI l k = if overN l k = k + 1 then [((k : Int) + 1)] else [((k : Int) + 1), (overN l k : Int)] by rw [HI.out, ← hop, h11]; rfl)
          obtain ⟨m1, m2, m3⟩ := pEnd_bound hp HX.out hbo
          generalize hm : pEnd l k = m at m1 m2 m3
          have hbL := (Below.refl w1.heap.size w1).alloc (Nat.le_refl _) (.cells #[.int .i64 ((k : Int) + 1)] 3)
          have hIL := int_lit w1 w1.heap.size (Nat.le_refl _) ((k : Int) + 1)
          have hAL := (hA.below (hb2.alloc hs2 (.cells #[.int .i64 ((k : Int) + 1)] 3))).more (hb2.alloc hs2 (.cells #[.int .i64 ((k : Int) + 1)] 3)).size
          go_wp2_with fail
          refine (l4End_c _ c l k _ hAL (by omega) hlt).mono ?_
          rintro e w3 ⟨rfl, hb3⟩
          have hI3 := OR.below hIL hb3 (Nat.le_refl _)
          have hbV := below_trans hbL (Nat.le_refl _) hb3
          have hs3 := hbV.size
          rw [m1]
          have q6 : IntKind.i64.wrap ((m : Int) + 1) = (m : Int) + 1 := IntWalk.i64_in _ (by omega)
          have hel : (endOf l k).2 = elseAt l k := rfl
          rw [hel]
          have hov : overN l k = if 0 ≤ elseAt l k then (elseAt l k).toNat + 1 else m + 1 := by unfold overN; rw [show endN l k = m from hm]
          have hel2 := elseAt_lt hlt
          generalize elseAt l k = eo at *
          obtain ⟨t, ht, htl⟩ : ∃ t : Nat, overN l k = t ∧ t ≤ l.length := ⟨_, rfl, overN_le hp HX.out hbo⟩
          rw [ht] at HS hov
          clear hel hm ht hbL hIL hAL
          rcases hel2 with rfl | ⟨j, rfl, j1, j2⟩
          · obtain rfl : t = m + 1 := by simpa using hov
            clear hov
            by_cases hto : m + 1 = k + 1
            · exfalso; omega
            · have hne : (((m : Int) + 1) != ((k : Int) + 1)) = true := by rw [bne_iff_ne]; omega
              have HS2 := Lib.hid (show succI l k = [((k : Int) + 1), (m : Int) + 1] by rw [HS.out, if_neg hto]; simp)
              clear HS
              go_wp2_with (at_builtin; refine app_int rfl _ _ rfl w1.heap.size _ _ _ _ (hI3.alloc _) rfl ((m : Int) + 1) w3.heap.size 1 rfl ?hc ?hn ?hb ?_)
              case hc => simp [go_sem]
              case hn => omega
              case hb => simp; omega
              intro A5 c5 w5 ho5 hg5
              have hb5 := below_app hbV hbV.size hI3 (Nat.le_refl _) hg5
              try simp only [List.cons_append, List.nil_append] at ho5
              have hbW := below_trans hb2 (Nat.le_refl _) hb5
              have hGW := Lib.hid (ho1.below hb5 (Nat.le_refl _))
              have hIW := Lib.hid (show OI w5 w.heap.size A5 (succI l k).length c5 (succI l k) by rw [HS2.out]; exact OR.mono ho5 hs2)
              have HN := Lib.hid (show 2 = (succI l k).length by rw [HS2.out]; rfl)
              clear ho5 hg5 hI3 hbV
              go_wp2_with (at_builtin; refine app_g rfl _ _ rfl w.heap.size A1 k c1 (succI l) rfl A5 2 c5 w5 rfl w5.heap.size rfl rfl hGW.out HN.out hIW.out ?hn ?hb ?_)
              case hn => omega
              case hb => exact hbW.size
              intro A9 c9 w9 hg9 hgr9
              have hb9 : Below w.heap.size w w9 := (hbW.alloc hbW.size _).grown hgr9 (by have := hbW.size; simp at this ⊢; omega) (fun j hj => by obtain ⟨vs, hv, _⟩ := ho1; exact (OR.block hv j hj).1)
              go_wp2
              go_roundw
              case rel => exact ⟨k + 1, A9, c9, by omega, by go_num, rfl, hg9, hb9⟩
              case measure => simp [intOf]; omega
          · obtain rfl : t = j + 1 := by simpa using hov
            have q7 : IntKind.i64.wrap ((j : Int) + 1) = (j : Int) + 1 := IntWalk.i64_in _ (by omega)
            have q8 : (0 : Int) ≤ (j : Int) := by omega
            clear hov
            by_cases hto : j + 1 = k + 1
            · exfalso; omega
            · have hne : (((j : Int) + 1) != ((k : Int) + 1)) = true := by rw [bne_iff_ne]; omega
              have HS2 := Lib.hid (show succI l k = [((k : Int) + 1), (j : Int) + 1] by rw [HS.out, if_neg hto]; simp)
              clear HS
              go_wp2_with (at_builtin; refine app_int rfl _ _ rfl w1.heap.size _ _ _ _ (hI3.alloc _) rfl ((j : Int) + 1) w3.heap.size 1 rfl ?hc ?hn ?hb ?_)
              case hc => simp [go_sem]
              case hn => omega
              case hb => simp; omega
              intro A5 c5 w5 ho5 hg5
              have hb5 := below_app hbV hbV.size hI3 (Nat.le_refl _) hg5
              try simp only [List.cons_append, List.nil_append] at ho5
              have hbW := below_trans hb2 (Nat.le_refl _) hb5
              have hGW := Lib.hid (ho1.below hb5 (Nat.le_refl _))
              have hIW := Lib.hid (show OI w5 w.heap.size A5 (succI l k).length c5 (succI l k) by rw [HS2.out]; exact OR.mono ho5 hs2)
              have HN := Lib.hid (show 2 = (succI l k).length by rw [HS2.out]; rfl)
              clear ho5 hg5 hI3 hbV
              go_wp2_with (at_builtin; refine app_g rfl _ _ rfl w.heap.size A1 k c1 (succI l) rfl A5 2 c5 w5 rfl w5.heap.size rfl rfl hGW.out HN.out hIW.out ?hn ?hb ?_)
              case hn => omega
              case hb => exact hbW.size
              intro A9 c9 w9 hg9 hgr9
              have hb9 : Below w.heap.size w w9 := (hbW.alloc hbW.size _).grown hgr9 (by have := hbW.size; simp at this ⊢; omega) (fun j hj => by obtain ⟨vs, hv, _⟩ := ho1; exact (OR.block hv j hj).1)
              go_wp2
              go_roundw
              case rel => exact ⟨k + 1, A9, c9, by omega, by go_num, rfl, hg9, hb9⟩
              case measure => simp [intOf]; omega
        · have e13 : (x.op == 13) = true := beq_iff_eq.2 h13
          have e11 : (x.op == 11) = false := by rw [h13]; rfl
          have hbo : opB x = true := by simp [opB, h13]
          have HS := Lib.hid (show succI l k = if overN l k = k + 1 then [((k : Int) + 1)] else [((k : Int) + 1), (overN l k : Int)] by rw [HI.out, ← hop, h13]; rfl)
          obtain ⟨m1, m2, m3⟩ := pEnd_bound hp HX.out hbo
          generalize hm : pEnd l k = m at m1 m2 m3
          have hbL := (Below.refl w1.heap.size w1).alloc (Nat.le_refl _) (.cells #[.int .i64 ((k : Int) + 1)] 3)
          have hIL := int_lit w1 w1.heap.size (Nat.le_refl _) ((k : Int) + 1)
          have hAL := (hA.below (hb2.alloc hs2 (.cells #[.int .i64 ((k : Int) + 1)] 3))).more (hb2.alloc hs2 (.cells #[.int .i64 ((k : Int) + 1)] 3)).size
          go_wp2_with fail
          refine (l4End_c _ c l k _ hAL (by omega) hlt).mono ?_
          rintro e w3 ⟨rfl, hb3⟩
          have hI3 := OR.below hIL hb3 (Nat.le_refl _)
          have hbV := below_trans hbL (Nat.le_refl _) hb3
          have hs3 := hbV.size
          rw [m1]
          have q6 : IntKind.i64.wrap ((m : Int) + 1) = (m : Int) + 1 := IntWalk.i64_in _ (by omega)
          have hel : (endOf l k).2 = elseAt l k := rfl
          rw [hel]
          have hov : overN l k = if 0 ≤ elseAt l k then (elseAt l k).toNat + 1 else m + 1 := by unfold overN; rw [show endN l k = m from hm]
          have hel2 := elseAt_lt hlt
          generalize elseAt l k = eo at *
          obtain ⟨t, ht, htl⟩ : ∃ t : Nat, overN l k = t ∧ t ≤ l.length := ⟨_, rfl, overN_le hp HX.out hbo⟩
          rw [ht] at HS hov
          clear hel hm ht hbL hIL hAL
          rcases hel2 with rfl | ⟨j, rfl, j1, j2⟩
          · obtain rfl : t = m + 1 := by simpa using hov
            clear hov
            by_cases hto : m + 1 = k + 1
            · exfalso; omega
            · have hne : (((m : Int) + 1) != ((k : Int) + 1)) = true := by rw [bne_iff_ne]; omega
              have HS2 := Lib.hid (show succI l k = [((k : Int) + 1), (m : Int) + 1] by rw [HS.out, if_neg hto]; simp)
              clear HS
              go_wp2_with (at_builtin; refine app_int rfl _ _ rfl w1.heap.size _ _ _ _ (hI3.alloc _) rfl ((m : Int) + 1) w3.heap.size 1 rfl ?hc ?hn ?hb ?_)
              case hc => simp [go_sem]
              case hn => omega
              case hb => simp; omega
              intro A5 c5 w5 ho5 hg5
              have hb5 := below_app hbV hbV.size hI3 (Nat.le_refl _) hg5
              try simp only [List.cons_append, List.nil_append] at ho5
              have hbW := below_trans hb2 (Nat.le_refl _) hb5
              have hGW := Lib.hid (ho1.below hb5 (Nat.le_refl _))
              have hIW := Lib.hid (show OI w5 w.heap.size A5 (succI l k).length c5 (succI l k) by rw [HS2.out]; exact OR.mono ho5 hs2)
              have HN := Lib.hid (show 2 = (succI l k).length by rw [HS2.out]; rfl)
              clear ho5 hg5 hI3 hbV
              go_wp2_with (at_builtin; refine app_g rfl _ _ rfl w.heap.size A1 k c1 (succI l) rfl A5 2 c5 w5 rfl w5.heap.size rfl rfl hGW.out HN.out hIW.out ?hn ?hb ?_)
              case hn => omega
              case hb => exact hbW.size
              intro A9 c9 w9 hg9 hgr9
              have hb9 : Below w.heap.size w w9 := (hbW.alloc hbW.size _).grown hgr9 (by have := hbW.size; simp at this ⊢; omega) (fun j hj => by obtain ⟨vs, hv, _⟩ := ho1; exact (OR.block hv j hj).1)
              go_wp2
              go_roundw
              case rel => exact ⟨k + 1, A9, c9, by omega, by go_num, rfl, hg9, hb9⟩
              case measure => simp [intOf]; omega
          · obtain rfl : t = j + 1 := by simpa using hov
            have q7 : IntKind.i64.wrap ((j : Int) + 1) = (j : Int) + 1 := IntWalk.i64_in _ (by omega)
            have q8 : (0 : Int) ≤ (j : Int) := by omega
            clear hov
            by_cases hto : j + 1 = k + 1
            · exfalso; omega
            · have hne : (((j : Int) + 1) != ((k : Int) + 1)) = true := by rw [bne_iff_ne]; omega
              have HS2 := Lib.hid (show succI l k = [((k : Int) + 1), (j : Int) + 1] by rw [HS.out, if_neg hto]; simp)
              clear HS
              go_wp2_with (at_builtin; refine app_int rfl _ _ rfl w1.heap.size _ _ _ _ (hI3.alloc _) rfl ((j : Int) + 1) w3.heap.size 1 rfl ?hc ?hn ?hb ?_)
              case hc => simp [go_sem]
              case hn => omega
              case hb => simp; omega
              intro A5 c5 w5 ho5 hg5
              have hb5 := below_app hbV hbV.size hI3 (Nat.le_refl _) hg5
              try simp only [List.cons_append, List.nil_append] at ho5
              have hbW := below_trans hb2 (Nat.le_refl _) hb5
              have hGW := Lib.hid (ho1.below hb5 (Nat.le_refl _))
              have hIW := Lib.hid (show OI w5 w.heap.size A5 (succI l k).length c5 (succI l k) by rw [HS2.out]; exact OR.mono ho5 hs2)
              have HN := Lib.hid (show 2 = (succI l k).length by rw [HS2.out]; rfl)
              clear ho5 hg5 hI3 hbV
              go_wp2_with (at_builtin; refine app_g rfl _ _ rfl w.heap.size A1 k c1 (succI l) rfl A5 2 c5 w5 rfl w5.heap.size rfl rfl hGW.out HN.out hIW.out ?hn ?hb ?_)
              case hn => omega
              case hb => exact hbW.size
              intro A9 c9 w9 hg9 hgr9
              have hb9 : Below w.heap.size w w9 := (hbW.alloc hbW.size _).grown hgr9 (by have := hbW.size; simp at this ⊢; omega) (fun j hj => by obtain ⟨vs, hv, _⟩ := ho1; exact (OR.block hv j hj).1)
              go_wp2
              go_roundw
              case rel => exact ⟨k + 1, A9, c9, by omega, by go_num, rfl, hg9, hb9⟩
              case measure => simp [intOf]; omega
        · have e12 : (x.op == 12) = true := beq_iff_eq.2 h12
          have e11 : (x.op == 11) = false := by rw [h12]; rfl
          have e13 : (x.op == 13) = false := by rw [h12]; rfl
          obtain ⟨a1, a2, a3⟩ := around_in hp HX.out (.inl h12)
          have HS0 := Lib.hid (show succI l k = [((endN l (aroundN l k) : Int) + 1)] by rw [HI.out, ← hop, h12]; rfl)
          generalize aroundN l k = r at a1 a2 a3 HS0
          have hbL := (Below.refl w1.heap.size w1).alloc (Nat.le_refl _) (.cells #[.int .i64 ((k : Int) + 1)] 3)
          have hIL := int_lit w1 w1.heap.size (Nat.le_refl _) ((k : Int) + 1)
          have hAL := (hA.below (hb2.alloc hs2 (.cells #[.int .i64 ((k : Int) + 1)] 3))).more (hb2.alloc hs2 (.cells #[.int .i64 ((k : Int) + 1)] 3)).size
          go_wp2_with fail
          refine (l4Around_c _ c l k _ hAL (by omega) (by omega)).mono ?_
          rintro e w3 ⟨rfl, hb3⟩
          rw [a1]
          have hb3V := below_trans hbL (Nat.le_refl _) hb3
          have hb3W := below_trans hb2 (Nat.le_refl _) hb3V
          have hA3 := (hA.below hb3W).more hb3W.size
          have hxr := cdAt_get' (show r < l.length by omega)
          obtain ⟨m1, m2, m3⟩ := pEnd_bound hp hxr a3
          have HS := Lib.hid (show succI l k = [((pEnd l r : Int) + 1)] from HS0.out)
          generalize pEnd l r = m at m1 m2 m3 HS
          go_wp2_with fail
          refine (l4End_c _ c l r _ hA3 (by omega) (by omega)).mono ?_
          rintro e w4 ⟨rfl, hb4⟩
          have hb4V := below_trans hb3V (Nat.le_refl _) hb4
          have hbYw := below_trans hb2 (Nat.le_refl _) hb4V
          rw [m1]
          have q6 : IntKind.i64.wrap ((m : Int) + 1) = (m : Int) + 1 := IntWalk.i64_in _ (by omega)
          have hs4 := hb4V.size
          clear a1 a2 a3 HS0 hxr m1 hIL hAL
          have hbY := hb4V
          have hbV := hbY.alloc hbY.size (.cells #[.int .i64 ((m : Int) + 1)] 3)
          have hbW := below_trans hb2 (Nat.le_refl _) hbV
          have hGW := Lib.hid (ho1.below hbV (Nat.le_refl _))
          have hIW := Lib.hid (show OI (w4.alloc (.cells #[.int .i64 ((m : Int) + 1)] 3)) w.heap.size (some ⟨w4.heap.size, 0, none⟩) (succI l k).length 1 (succI l k) by rw [HS.out]; exact int_lit w4 _ hbYw.size ((m : Int) + 1))
          have HN := Lib.hid (show 1 = (succI l k).length by rw [HS.out]; rfl)
          go_wp2_with (at_builtin; refine app_g rfl _ _ rfl w.heap.size A1 k c1 (succI l) rfl (some ⟨w4.heap.size, 0, none⟩) 1 1 (w4.alloc (.cells #[.int .i64 ((m : Int) + 1)] 3)) rfl (w4.heap.size + 1) (by simp) rfl hGW.out HN.out hIW.out ?hn ?hb ?_)
          case hn => omega
          case hb => exact hbW.size
          intro A9 c9 w9 hg9 hgr9
          have hb9 : Below w.heap.size w w9 := (hbW.alloc hbW.size _).grown hgr9 (by have := hbW.size; simp at this ⊢; omega) (fun j hj => by obtain ⟨vs, hv, _⟩ := ho1; exact (OR.block hv j hj).1)
          go_wp2
          go_roundw
          case rel => exact ⟨k + 1, A9, c9, by omega, by go_num, rfl, hg9, hb9⟩
          case measure => simp [intOf]; omega
        · have e14 : (x.op == 14) = true := beq_iff_eq.2 h14
          have e11 : (x.op == 11) = false := by rw [h14]; rfl
          have e13 : (x.op == 13) = false := by rw [h14]; rfl
          have e12 : (x.op == 12) = false := by rw [h14]; rfl
          obtain ⟨a1, a2, a3⟩ := around_in hp HX.out (.inr h14)
          have HS0 := Lib.hid (show succI l k = (if opAt l (aroundN l k) == 13 then [((aroundN l k : Int) + 1), ((k : Int) + 1)] else [((k : Int) + 1)]) by rw [HI.out, ← hop, h14]; rfl)
          generalize aroundN l k = r at a1 a2 a3 HS0
          have hbL := (Below.refl w1.heap.size w1).alloc (Nat.le_refl _) (.cells #[.int .i64 ((k : Int) + 1)] 3)
          have hIL := int_lit w1 w1.heap.size (Nat.le_refl _) ((k : Int) + 1)
          have hAL := (hA.below (hb2.alloc hs2 (.cells #[.int .i64 ((k : Int) + 1)] 3))).more (hb2.alloc hs2 (.cells #[.int .i64 ((k : Int) + 1)] 3)).size
          go_wp2_with fail
          refine (l4Around_c _ c l k _ hAL (by omega) (by omega)).mono ?_
          rintro e w3 ⟨rfl, hb3⟩
          rw [a1]
          have hb3V := below_trans hbL (Nat.le_refl _) hb3
          have hb3W := below_trans hb2 (Nat.le_refl _) hb3V
          have hA3 := (hA.below hb3W).more hb3W.size
          have hxr := cdAt_get' (show r < l.length by omega)
          have hopr := cdAt_op l r
          generalize cdAt l r = y at hxr hopr a3
          obtain ⟨b2, off2, y2, e2, -, hy2, u0, -, -, -⟩ := hA3.at_ (show r < l.length by omega)
          injection e2 with e2
          injection e2 with e2 e3
          subst e2 e3
          rw [hxr] at hy2
          injection hy2 with hy2
          subst hy2
          rw [← hopr] at HS0
          have q6 : IntKind.i64.wrap ((r : Int) + 1) = (r : Int) + 1 := IntWalk.i64_in _ (by omega)
          have q7 : (0 : Int) ≤ (r : Int) := by omega
          have q8 : (r : Int) < (l.length : Int) := by omega
          have hbYw := hb3W
          have hs4 := hb3V.size
          have hI3 := OR.below hIL hb3 (Nat.le_refl _)
          clear a1 a2 a3 hxr hAL hIL d0
          cases ey : y.op == 13 with
          | true =>
            have HS := Lib.hid (show succI l k = [((r : Int) + 1), ((k : Int) + 1)] by rw [HS0.out, ey]; rfl)
            have hbY := hb3V
            have hbV := hbY.alloc hbY.size (.cells #[.int .i64 ((r : Int) + 1), .int .i64 ((k : Int) + 1)] 3)
            have hbW := below_trans hb2 (Nat.le_refl _) hbV
            have hGW := Lib.hid (ho1.below hbV (Nat.le_refl _))
            have hIW := Lib.hid (show OI (w3.alloc (.cells #[.int .i64 ((r : Int) + 1), .int .i64 ((k : Int) + 1)] 3)) w.heap.size (some ⟨w3.heap.size, 0, none⟩) (succI l k).length 2 (succI l k) by rw [HS.out]; exact int_lit2 w3 _ hbYw.size ((r : Int) + 1) ((k : Int) + 1))
            have HN := Lib.hid (show 2 = (succI l k).length by rw [HS.out]; rfl)
            go_wp2_with (at_builtin; refine app_g rfl _ _ rfl w.heap.size A1 k c1 (succI l) rfl (some ⟨w3.heap.size, 0, none⟩) 2 2 (w3.alloc (.cells #[.int .i64 ((r : Int) + 1), .int .i64 ((k : Int) + 1)] 3)) rfl (w3.heap.size + 1) (by simp) rfl hGW.out HN.out hIW.out ?hn ?hb ?_)
            case hn => omega
            case hb => exact hbW.size
            intro A9 c9 w9 hg9 hgr9
            have hb9 : Below w.heap.size w w9 := (hbW.alloc hbW.size _).grown hgr9 (by have := hbW.size; simp at this ⊢; omega) (fun j hj => by obtain ⟨vs, hv, _⟩ := ho1; exact (OR.block hv j hj).1)
            go_wp2
            go_roundw
            case rel => exact ⟨k + 1, A9, c9, by omega, by go_num, rfl, hg9, hb9⟩
            case measure => simp [intOf]; omega
          | false =>
            have HS := Lib.hid (show succI l k = [((k : Int) + 1)] by rw [HS0.out, ey]; rfl)
            have hbW := hb3W
            have hGW := Lib.hid (ho1.below hb3V (Nat.le_refl _))
            have hIW := Lib.hid (show OI w3 w.heap.size (some ⟨w1.heap.size, 0, none⟩) (succI l k).length 1 (succI l k) by rw [HS.out]; exact OR.mono hI3 hs2)
            have HN := Lib.hid (show 1 = (succI l k).length by rw [HS.out]; rfl)
            go_wp2_with (at_builtin; refine app_g rfl _ _ rfl w.heap.size A1 k c1 (succI l) rfl (some ⟨w1.heap.size, 0, none⟩) 1 1 w3 rfl w3.heap.size rfl rfl hGW.out HN.out hIW.out ?hn ?hb ?_)
            case hn => omega
            case hb => exact hbW.size
            intro A9 c9 w9 hg9 hgr9
            have hb9 : Below w.heap.size w w9 := (hbW.alloc hbW.size _).grown hgr9 (by have := hbW.size; simp at this ⊢; omega) (fun j hj => by obtain ⟨vs, hv, _⟩ := ho1; exact (OR.block hv j hj).1)
            go_wp2
            go_roundw
            case rel => exact ⟨k + 1, A9, c9, by omega, by go_num, rfl, hg9, hb9⟩
            case measure => simp [intOf]; omega
    · obtain rfl : k = l.length := by omega
      have hs2 := hb.size
      go_wp2_with fail
      refine (sProgramValid_c A c l wr ((hA.below hb).more hb.size) (by omega)).mono ?_
      rintro e w1 ⟨rfl, hb1⟩
      rw [hp]
      have ho1 := ho.below hb1 (Nat.le_refl _)
      have hb2 := below_trans hb (Nat.le_refl _) hb1
      have hO := OI.empty_ w1 w.heap.size hb2.size
      have hbV := (Below.refl w1.heap.size w1).alloc (Nat.le_refl _) (.cells #[] 3)
      have hbW := below_trans hb2 (Nat.le_refl _) hbV
      have hGW := Lib.hid (ho1.below hbV (Nat.le_refl _))
      have hIW := Lib.hid (show OI (w1.alloc (.cells #[] 3)) w.heap.size (some ⟨w1.heap.size, 0, none⟩) (succI l l.length).length 0 (succI l l.length) by rw [succI_end]; exact hO)
      have HN := Lib.hid (show 0 = (succI l l.length).length by rw [succI_end]; rfl)
      go_wp2_with (at_builtin; refine app_g rfl _ _ rfl w.heap.size A1 l.length c1 (succI l) rfl (some ⟨w1.heap.size, 0, none⟩) 0 0 (w1.alloc (.cells #[] 3)) rfl (w1.heap.size + 1) (by simp) rfl hGW.out HN.out hIW.out ?hn ?hb ?_)
      case hn => omega
      case hb => exact hbW.size
      intro A9 c9 w9 hg9 hgr9
      have hb9 : Below w.heap.size w w9 := (hbW.alloc hbW.size _).grown hgr9 (by have := hbW.size; simp at this ⊢; omega) (fun j hj => by obtain ⟨vs, hv, _⟩ := ho1; exact (OR.block hv j hj).1)
      go_wp2
      go_ret
      exact ⟨A9, c9, rfl, hg9, hb9⟩
end Go.Proofs.YtakeacndmnnbmaaGreat
