/- Part 16 of what the claim needs. -/
import Derived.Test.YtelbfeidpcojmaaGreatLau15
namespace Go.Proofs.YtelbfeidpcojmaaGreat
open Go.RowKit
set_option linter.unusedVariables false
set_option linter.unusedSimpArgs false

def GORel (w : World) (l : List Cd) (ov kv : Value) (wr : World) : Prop :=
  ∃ (k : Nat) (A : Option Addr) (c : Nat), k ≤ l.length ∧ kv = .int .i64 k ∧ ov = .slice A k c ∧ GOw wr w.heap.size A k c (succI l) k ∧ Below w.heap.size w wr

set_option maxRecDepth 100000 in
set_option maxHeartbeats 8000000 in
theorem sGraphOf_c (A : Option Addr) (c : Nat) (l : List Cd) (w : World) (hA : RdC w w.heap.size A l) (hp : pv l = true) :
    Calls Tryz.prog 144 #[.slice A l.length c] w (RetG w l) := by
  have h40 := (pv_iff.1 hp).1
  have HP := Lib.hid hp
  go_enter Tryz.func144, Tryz.ntmps144
  go_wp2
  go_loopw [3, 4] (fun ov kv wr => GORel w l ov kv wr) (fun _ kv _ => l.length - (intOf kv).toNat)
  case atStart =>
    refine ⟨0, _, 0, Nat.zero_le _, rfl, rfl, ⟨[], ?_, fun k hk => by omega⟩, (by repeat (first | exact Below.refl _ _ | assumption | refine Below.alloc ?_ (by simp <;> omega) _ | refine Below.setCell ?_ (by simp <;> omega) _ | refine Below.drew ?_))⟩
    exact OR.lit w w.heap.size 24 1 0 #[] (Nat.le_refl _) (by omega) rfl
  case round =>
    obtain ⟨k, A1, c1, hk, rfl, rfl, ho, hb⟩ := hrel
    by_cases hlt : k < l.length
    · go_wp2_with fail
      refine (sProgramValid_c A c l wr ((hA.below hb).more hb.size) (by omega)).mono ?_
      rintro e w1 ⟨rfl, hb1⟩
      rw [hp]
      have ho1 := ho.below hb1 (Nat.le_refl _)
      have hb2 := below_trans hb (Nat.le_refl _) hb1
      have hs2 := hb2.size
      have HI := Lib.hid (succI_succ hlt)
      have hx := cdAt_get' hlt
      have hop := cdAt_op l k
      generalize hcd : cdAt l k = x at hx hop
      clear hcd ho
      obtain ⟨b, off, y, rfl, hbB, hy, d0, d1, d2, d3⟩ := (hA.below hb2).at_ hlt
      have hbB2 : b < w1.heap.size := by omega
      rw [hx] at hy
      injection hy with hy
      subst hy
      have q5 : IntKind.i64.wrap ((k : Int) + 1) = (k : Int) + 1 := IntWalk.i64_in _ (by omega)
      have HX := Lib.hid hx
      clear hx d1 d2 d3
      by_cases hpl : opB x = false ∧ x.op ≠ 12 ∧ x.op ≠ 14
      · obtain ⟨p1, p2, p3⟩ := hpl
        have p4 : x.op ≠ 11 ∧ x.op ≠ 13 := by simpa [opB] using p1
        have e11 : (x.op == 11) = false := beq_eq_false_iff_ne.2 p4.1
        have e13 : (x.op == 13) = false := beq_eq_false_iff_ne.2 p4.2
        have e12 : (x.op == 12) = false := beq_eq_false_iff_ne.2 p2
        have e14 : (x.op == 14) = false := beq_eq_false_iff_ne.2 p3
        have HS := Lib.hid (show succI l k = [(k : Int) + 1] by rw [HI.out, ← hop, e11, e12, e13, e14]; rfl)
        have hG := Lib.hid (GOw.below ho1 ((Below.refl w1.heap.size w1).alloc (Nat.le_refl _) (.cells #[.int .i64 ((k : Int) + 1)] 3)) (Nat.le_refl _))
        have hI := Lib.hid (show OI (w1.alloc (.cells #[.int .i64 ((k : Int) + 1)] 3)) w.heap.size (some ⟨w1.heap.size, 0, none⟩) (succI l k).length 1 (succI l k) by rw [HS.out]; exact int_lit w1 _ hs2 _)
        have hN : 1 = (succI l k).length := by rw [HS.out]; rfl
        have HN := Lib.hid hN
        clear hN p1 p2 p3 p4
        go_wp2_with (at_builtin; refine app_g rfl _ _ rfl w.heap.size A1 k c1 (succI l) rfl (some ⟨w1.heap.size, 0, none⟩) 1 1 (w1.alloc (.cells #[.int .i64 ((k : Int) + 1)] 3)) rfl (w1.heap.size + 1) (by simp) rfl hG.out HN.out hI.out ?hn ?hb ?_)
        case hn => omega
        case hb => simp; omega
        intro A2 c2 w2 hg2 hgr
        have hb9 : Below w.heap.size w w2 := (hb2.alloc hs2 (.cells #[.int .i64 ((k : Int) + 1)] 3)).alloc (by simp; omega) (.cells #[.slice (some ⟨w1.heap.size, 0, none⟩) 1 1] 24) |>.grown hgr (by simp; omega) (fun j hj => by obtain ⟨vs, hv, _⟩ := ho1; exact (OR.block hv j hj).1)
        go_wp2
        go_roundw
        case rel => exact ⟨k + 1, A2, c2, by omega, by go_num, rfl, hg2, hb9⟩
        case measure => simp [intOf]; omega
      · have hop3 : x.op = 11 ∨ x.op = 13 ∨ x.op = 12 ∨ x.op = 14 := by
          simp [opB] at hpl
          omega
        rcases hop3 with h11 | h13 | h12 | h14
        · have e11 : (x.op == 11) = true := beq_iff_eq.2 h11
          have hbo : opB x = true := by simp [opB, h11]
          have HS := Lib.hid (show succI l k = if overN l k = k + 1 then [((k : Int) + 1)] else [((k : Int) + 1), (overN l k : Int)] by rw [HI.out, ← hop, h11]; rfl)
          obtain ⟨m1, m2, m3⟩ := pEnd_bound hp HX.out hbo
          generalize hm : pEnd l k = m at m1 m2 m3
          have hbL := (Below.refl w1.heap.size w1).alloc (Nat.le_refl _) (.cells #[.int .i64 ((k : Int) + 1)] 3)
          have hIL := int_lit w1 w1.heap.size (Nat.le_refl _) ((k : Int) + 1)
          have hAL := (hA.below (hb2.alloc hs2 (.cells #[.int .i64 ((k : Int) + 1)] 3))).more (hb2.alloc hs2 (.cells #[.int .i64 ((k : Int) + 1)] 3)).size
          go_wp2_with fail
          refine (l4End_c _ c l k _ hAL (by omega) hlt).mono ?_
          rintro e w3 ⟨rfl, hb3⟩
          have hI3 := OR.below hIL hb3 (Nat.le_refl _)
          have hbV := below_trans hbL (Nat.le_refl _) hb3
          have hs3 := hbV.size
          rw [m1]
          have q6 : IntKind.i64.wrap ((m : Int) + 1) = (m : Int) + 1 := IntWalk.i64_in _ (by omega)
          have hel : (endOf l k).2 = elseAt l k := rfl
          rw [hel]
          have hov : overN l k = if 0 ≤ elseAt l k then (elseAt l k).toNat + 1 else m + 1 := by unfold overN; rw [show endN l k = m from hm]
          have hel2 := elseAt_lt hlt
          generalize elseAt l k = eo at *
          obtain ⟨t, ht, htl⟩ : ∃ t : Nat, overN l k = t ∧ t ≤ l.length := ⟨_, rfl, overN_le hp HX.out hbo⟩
          rw [ht] at HS hov
          clear hel hm ht hbL hIL hAL
          rcases hel2 with rfl | ⟨j, rfl, j1, j2⟩
          · obtain rfl : t = m + 1 := by simpa using hov
            clear hov
            by_cases hto : m + 1 = k + 1
            · exfalso; omega
            · have hne : (((m : Int) + 1) != ((k : Int) + 1)) = true := by rw [bne_iff_ne]; omega
              have HS2 := Lib.hid (show succI l k = [((k : Int) + 1), (m : Int) + 1] by rw [HS.out, if_neg hto]; simp)
              clear HS
              go_wp2_with (at_builtin; refine app_int rfl _ _ rfl w1.heap.size _ _ _ _ (hI3.alloc _) rfl ((m : Int) + 1) w3.heap.size 1 rfl ?hc ?hn ?hb ?_)
              case hc => simp [go_sem]
              case hn => omega
              case hb => simp; omega
              intro A5 c5 w5 ho5 hg5
              have hb5 := below_app hbV hbV.size hI3 (Nat.le_refl _) hg5
              try simp only [List.cons_append, List.nil_append] at ho5
              have hbW := below_trans hb2 (Nat.le_refl _) hb5
              have hGW := Lib.hid (ho1.below hb5 (Nat.le_refl _))
              have hIW := Lib.hid (show OI w5 w.heap.size A5 (succI l k).length c5 (succI l k) by rw [HS2.out]; exact OR.mono ho5 hs2)
              have HN := Lib.hid (show 2 = (succI l k).length by rw [HS2.out]; rfl)
              clear ho5 hg5 hI3 hbV
              go_wp2_with (at_builtin; refine app_g rfl _ _ rfl w.heap.size A1 k c1 (succI l) rfl A5 2 c5 w5 rfl w5.heap.size rfl rfl hGW.out HN.out hIW.out ?hn ?hb ?_)
              case hn => omega
              case hb => exact hbW.size
              intro A9 c9 w9 hg9 hgr9
              have hb9 : Below w.heap.size w w9 := (hbW.alloc hbW.size _).grown hgr9 (by have := hbW.size; simp at this ⊢; omega) (fun j hj => by obtain ⟨vs, hv, _⟩ := ho1; exact (OR.block hv j hj).1)
              go_wp2
              go_roundw
              case rel => exact ⟨k + 1, A9, c9, by omega, by go_num, rfl, hg9, hb9⟩
              case measure => simp [intOf]; omega
          · obtain rfl : t = j + 1 := by simpa using hov
            have q7 : IntKind.i64.wrap ((j : Int) + 1) = (j : Int) + 1 := IntWalk.i64_in _ (by omega)
            have q8 : (0 : Int) ≤ (j : Int) := by omega
            clear hov
            by_cases hto : j + 1 = k + 1
            · exfalso; omega
            · have hne : (((j : Int) + 1) != ((k : Int) + 1)) = true := by rw [bne_iff_ne]; omega
              have HS2 := Lib.hid (show succI l k = [((k : Int) + 1), (j : Int) + 1] by rw [HS.out, if_neg hto]; simp)
              clear HS
              go_wp2_with (at_builtin; refine app_int rfl _ _ rfl w1.heap.size _ _ _ _ (hI3.alloc _) rfl ((j : Int) + 1) w3.heap.size 1 rfl ?hc ?hn ?hb ?_)
              case hc => simp [go_sem]
              case hn => omega
              case hb => simp; omega
              intro A5 c5 w5 ho5 hg5
              have hb5 := below_app hbV hbV.size hI3 (Nat.le_refl _) hg5
              try simp only [List.cons_append, List.nil_append] at ho5
              have hbW := below_trans hb2 (Nat.le_refl _) hb5
              have hGW := Lib.hid (ho1.below hb5 (Nat.le_refl _))
              have hIW := Lib.hid (show OI w5 w.heap.size A5 (succI l k).length c5 (succI l k) by rw [HS2.out]; exact OR.mono ho5 hs2)
              have HN := Lib.hid (show 2 = (succI l k).length by rw [HS2.out]; rfl)
              clear ho5 hg5 hI3 hbV
              go_wp2_with (at_builtin; refine app_g rfl _ _ rfl w.heap.size A1 k c1 (succI l) rfl A5 2 c5 w5 rfl w5.heap.size rfl rfl hGW.out HN.out hIW.out ?hn ?hb ?_)
              case hn => omega
              case hb => exact hbW.size
              intro A9 c9 w9 hg9 hgr9
              have hb9 : Below w.heap.size w w9 := (hbW.alloc hbW.size _).grown hgr9 (by have := hbW.size; simp at this ⊢; omega) (fun j hj => by obtain ⟨vs, hv, _⟩ := ho1; exact (OR.block hv j hj).1)
              go_wp2
              go_roundw
              case rel => exact ⟨k + 1, A9, c9, by omega, by go_num, rfl, hg9, hb9⟩
              case measure => simp [intOf]; omega
        · have e13 : (x.op == 13) = true := beq_iff_eq.2 h13
          have e11 : (x.op == 11) = false := by rw [h13]; rfl
          have hbo : opB x = true := by simp [opB, h13]
          have HS := Lib.hid (show succI l k = if overN l k = k + 1 then [((k : Int) + 1)] else [((k : Int) + 1), (overN l k : Int)] by rw [HI.out, ← hop, h13]; rfl)
          obtain ⟨m1, m2, m3⟩ := pEnd_bound hp HX.out hbo
          generalize hm : pEnd l k = m at m1 m2 m3
          have hbL := (Below.refl w1.heap.size w1).alloc (Nat.le_refl _) (.cells #[.int .i64 ((k : Int) + 1)] 3)
          have hIL := int_lit w1 w1.heap.size (Nat.le_refl _) ((k : Int) + 1)
          have hAL := (hA.below (hb2.alloc hs2 (.cells #[.int .i64 ((k : Int) + 1)] 3))).more (hb2.alloc hs2 (.cells #[.int .i64 ((k : Int) + 1)] 3)).size
          go_wp2_with fail
          refine (l4End_c _ c l k _ hAL (by omega) hlt).mono ?_
          rintro e w3 ⟨rfl, hb3⟩
          have hI3 := OR.below hIL hb3 (Nat.le_refl _)
          have hbV := below_trans hbL (Nat.le_refl _) hb3
          have hs3 := hbV.size
          rw [m1]
          have q6 : IntKind.i64.wrap ((m : Int) + 1) = (m : Int) + 1 := IntWalk.i64_in _ (by omega)
          have hel : (endOf l k).2 = elseAt l k := rfl
          rw [hel]
          have hov : overN l k = if 0 ≤ elseAt l k then (elseAt l k).toNat + 1 else m + 1 := by unfold overN; rw [show endN l k = m from hm]
          have hel2 := elseAt_lt hlt
          generalize elseAt l k = eo at *
          obtain ⟨t, ht, htl⟩ : ∃ t : Nat, overN l k = t ∧ t ≤ l.length := ⟨_, rfl, overN_le hp HX.out hbo⟩
          rw [ht] at HS hov
          clear hel hm ht hbL hIL hAL
          rcases hel2 with rfl | ⟨j, rfl, j1, j2⟩
          · obtain rfl : t = m + 1 := by simpa using hov
            clear hov
            by_cases hto : m + 1 = k + 1
            · exfalso; omega
            · have hne : (((m : Int) + 1) != ((k : Int) + 1)) = true := by rw [bne_iff_ne]; omega
              have HS2 := Lib.hid (show succI l k = [((k : Int) + 1), (m : Int) + 1] by rw [HS.out, if_neg hto]; simp)
              clear HS
              go_wp2_with (at_builtin; refine app_int rfl _ _ rfl w1.heap.size _ _ _ _ (hI3.alloc _) rfl ((m : Int) + 1) w3.heap.size 1 rfl ?hc ?hn ?hb ?_)
              case hc => simp [go_sem]
              case hn => omega
              case hb => simp; omega
              intro A5 c5 w5 ho5 hg5
              have hb5 := below_app hbV hbV.size hI3 (Nat.le_refl _) hg5
              try simp only [List.cons_append, List.nil_append] at ho5
              have hbW := below_trans hb2 (Nat.le_refl _) hb5
              have hGW := Lib.hid (ho1.below hb5 (Nat.le_refl _))
              have hIW := Lib.hid (show OI w5 w.heap.size A5 (succI l k).length c5 (succI l k) by rw [HS2.out]; exact OR.mono ho5 hs2)
              have HN := Lib.hid (show 2 = (succI l k).length by rw [HS2.out]; rfl)
              clear ho5 hg5 hI3 hbV
              go_wp2_with (at_builtin; refine app_g rfl _ _ rfl w.heap.size A1 k c1 (succI l) rfl A5 2 c5 w5 rfl w5.heap.size rfl rfl hGW.out HN.out hIW.out ?hn ?hb ?_)
              case hn => omega
              case hb => exact hbW.size
              intro A9 c9 w9 hg9 hgr9
              have hb9 : Below w.heap.size w w9 := (hbW.alloc hbW.size _).grown hgr9 (by have := hbW.size; simp at this ⊢; omega) (fun j hj => by obtain ⟨vs, hv, _⟩ := ho1; exact (OR.block hv j hj).1)
              go_wp2
              go_roundw
              case rel => exact ⟨k + 1, A9, c9, by omega, by go_num, rfl, hg9, hb9⟩
              case measure => simp [intOf]; omega
          · obtain rfl : t = j + 1 := by simpa using hov
            have q7 : IntKind.i64.wrap ((j : Int) + 1) = (j : Int) + 1 := IntWalk.i64_in _ (by omega)
            have q8 : (0 : Int) ≤ (j : Int) := by omega
            clear hov
            by_cases hto : j + 1 = k + 1
            · exfalso; omega
            · have hne : (((j : Int) + 1) != ((k : Int) + 1)) = true := by rw [bne_iff_ne]; omega
              have HS2 := Lib.hid (show succI l k = [((k : Int) + 1), (j : Int) + 1] by rw [HS.out, if_neg hto]; simp)
              clear HS
              go_wp2_with (at_builtin; refine app_int rfl _ _ rfl w1.heap.size _ _ _ _ (hI3.alloc _) rfl ((j : Int) + 1) w3.heap.size 1 rfl ?hc ?hn ?hb ?_)
              case hc => simp [go_sem]
              case hn => omega
              case hb => simp; omega
              intro A5 c5 w5 ho5 hg5
              have hb5 := below_app hbV hbV.size hI3 (Nat.le_refl _) hg5
              try simp only [List.cons_append, List.nil_append] at ho5
              have hbW := below_trans hb2 (Nat.le_refl _) hb5
              have hGW := Lib.hid (ho1.below hb5 (Nat.le_refl _))
              have hIW := Lib.hid (show OI w5 w.heap.size A5 (succI l k).length c5 (succI l k) by rw [HS2.out]; exact OR.mono ho5 hs2)
              have HN := Lib.hid (show 2 = (succI l k).length by rw [HS2.out]; rfl)
              clear ho5 hg5 hI3 hbV
              go_wp2_with (at_builtin; refine app_g rfl _ _ rfl w.heap.size A1 k c1 (succI l) rfl A5 2 c5 w5 rfl w5.heap.size rfl rfl hGW.out HN.out hIW.out ?hn ?hb ?_)
              case hn => omega
              case hb => exact hbW.size
              intro A9 c9 w9 hg9 hgr9
              have hb9 : Below w.heap.size w w9 := (hbW.alloc hbW.size _).grown hgr9 (by have := hbW.size; simp at this ⊢; omega) (fun j hj => by obtain ⟨vs, hv, _⟩ := ho1; exact (OR.block hv j hj).1)
              go_wp2
              go_roundw
              case rel => exact ⟨k + 1, A9, c9, by omega, by go_num, rfl, hg9, hb9⟩
              case measure => simp [intOf]; omega
        · have e12 : (x.op == 12) = true := beq_iff_eq.2 h12
          have e11 : (x.op == 11) = false := by rw [h12]; rfl
          have e13 : (x.op == 13) = false := by rw [h12]; rfl
          obtain ⟨a1, a2, a3⟩ := around_in hp HX.out (.inl h12)
          have HS0 := Lib.hid (show succI l k = [((endN l (aroundN l k) : Int) + 1)] by rw [HI.out, ← hop, h12]; rfl)
          generalize aroundN l k = r at a1 a2 a3 HS0
          have hbL := (Below.refl w1.heap.size w1).alloc (Nat.le_refl _) (.cells #[.int .i64 ((k : Int) + 1)] 3)
          have hIL := int_lit w1 w1.heap.size (Nat.le_refl _) ((k : Int) + 1)
          have hAL := (hA.below (hb2.alloc hs2 (.cells #[.int .i64 ((k : Int) + 1)] 3))).more (hb2.alloc hs2 (.cells #[.int .i64 ((k : Int) + 1)] 3)).size
          go_wp2_with fail
          refine (l4Around_c _ c l k _ hAL (by omega) (by omega)).mono ?_
          rintro e w3 ⟨rfl, hb3⟩
          rw [a1]
          have hb3V := below_trans hbL (Nat.le_refl _) hb3
          have hb3W := below_trans hb2 (Nat.le_refl _) hb3V
          have hA3 := (hA.below hb3W).more hb3W.size
          have hxr := cdAt_get' (show r < l.length by omega)
          obtain ⟨m1, m2, m3⟩ := pEnd_bound hp hxr a3
          have HS := Lib.hid (show succI l k = [((pEnd l r : Int) + 1)] from HS0.out)
          generalize pEnd l r = m at m1 m2 m3 HS
          go_wp2_with fail
          refine (l4End_c _ c l r _ hA3 (by omega) (by omega)).mono ?_
          rintro e w4 ⟨rfl, hb4⟩
          have hb4V := below_trans hb3V (Nat.le_refl _) hb4
          have hbYw := below_trans hb2 (Nat.le_refl _) hb4V
          rw [m1]
          have q6 : IntKind.i64.wrap ((m : Int) + 1) = (m : Int) + 1 := IntWalk.i64_in _ (by omega)
          have hs4 := hb4V.size
          clear a1 a2 a3 HS0 hxr m1 hIL hAL
          have hbY := hb4V
          have hbV := hbY.alloc hbY.size (.cells #[.int .i64 ((m : Int) + 1)] 3)
          have hbW := below_trans hb2 (Nat.le_refl _) hbV
          have hGW := Lib.hid (ho1.below hbV (Nat.le_refl _))
          have hIW := Lib.hid (show OI (w4.alloc (.cells #[.int .i64 ((m : Int) + 1)] 3)) w.heap.size (some ⟨w4.heap.size, 0, none⟩) (succI l k).length 1 (succI l k) by rw [HS.out]; exact int_lit w4 _ hbYw.size ((m : Int) + 1))
          have HN := Lib.hid (show 1 = (succI l k).length by rw [HS.out]; rfl)
          go_wp2_with (at_builtin; refine app_g rfl _ _ rfl w.heap.size A1 k c1 (succI l) rfl (some ⟨w4.heap.size, 0, none⟩) 1 1 (w4.alloc (.cells #[.int .i64 ((m : Int) + 1)] 3)) rfl (w4.heap.size + 1) (by simp) rfl hGW.out HN.out hIW.out ?hn ?hb ?_)
          case hn => omega
          case hb => exact hbW.size
          intro A9 c9 w9 hg9 hgr9
          have hb9 : Below w.heap.size w w9 := (hbW.alloc hbW.size _).grown hgr9 (by have := hbW.size; simp at this ⊢; omega) (fun j hj => by obtain ⟨vs, hv, _⟩ := ho1; exact (OR.block hv j hj).1)
          go_wp2
          go_roundw
          case rel => exact ⟨k + 1, A9, c9, by omega, by go_num, rfl, hg9, hb9⟩
          case measure => simp [intOf]; omega
        · have e14 : (x.op == 14) = true := beq_iff_eq.2 h14
          have e11 : (x.op == 11) = false := by rw [h14]; rfl
          have e13 : (x.op == 13) = false := by rw [h14]; rfl
          have e12 : (x.op == 12) = false := by rw [h14]; rfl
          obtain ⟨a1, a2, a3⟩ := around_in hp HX.out (.inr h14)
          have HS0 := Lib.hid (show succI l k = (if opAt l (aroundN l k) == 13 then [((aroundN l k : Int) + 1), ((k : Int) + 1)] else [((k : Int) + 1)]) by rw [HI.out, ← hop, h14]; rfl)
          generalize aroundN l k = r at a1 a2 a3 HS0
          have hbL := (Below.refl w1.heap.size w1).alloc (Nat.le_refl _) (.cells #[.int .i64 ((k : Int) + 1)] 3)
          have hIL := int_lit w1 w1.heap.size (Nat.le_refl _) ((k : Int) + 1)
          have hAL := (hA.below (hb2.alloc hs2 (.cells #[.int .i64 ((k : Int) + 1)] 3))).more (hb2.alloc hs2 (.cells #[.int .i64 ((k : Int) + 1)] 3)).size
          go_wp2_with fail
          refine (l4Around_c _ c l k _ hAL (by omega) (by omega)).mono ?_
          rintro e w3 ⟨rfl, hb3⟩
          rw [a1]
          have hb3V := below_trans hbL (Nat.le_refl _) hb3
          have hb3W := below_trans hb2 (Nat.le_refl _) hb3V
          have hA3 := (hA.below hb3W).more hb3W.size
          have hxr := cdAt_get' (show r < l.length by omega)
          have hopr := cdAt_op l r
          generalize cdAt l r = y at hxr hopr a3
          obtain ⟨b2, off2, y2, e2, -, hy2, u0, -, -, -⟩ := hA3.at_ (show r < l.length by omega)
          injection e2 with e2
          injection e2 with e2 e3
          subst e2 e3
          rw [hxr] at hy2
          injection hy2 with hy2
          subst hy2
          rw [← hopr] at HS0
          have q6 : IntKind.i64.wrap ((r : Int) + 1) = (r : Int) + 1 := IntWalk.i64_in _ (by omega)
          have q7 : (0 : Int) ≤ (r : Int) := by omega
          have q8 : (r : Int) < (l.length : Int) := by omega
          have hbYw := hb3W
          have hs4 := hb3V.size
          have hI3 := OR.below hIL hb3 (Nat.le_refl _)
          clear a1 a2 a3 hxr hAL hIL d0
          cases ey : y.op == 13 with
          | true =>
            have HS := Lib.hid (show succI l k = [((r : Int) + 1), ((k : Int) + 1)] by rw [HS0.out, ey]; rfl)
            have hbY := hb3V
            have hbV := hbY.alloc hbY.size (.cells #[.int .i64 ((r : Int) + 1), .int .i64 ((k : Int) + 1)] 3)
            have hbW := below_trans hb2 (Nat.le_refl _) hbV
            have hGW := Lib.hid (ho1.below hbV (Nat.le_refl _))
            have hIW := Lib.hid (show OI (w3.alloc (.cells #[.int .i64 ((r : Int) + 1), .int .i64 ((k : Int) + 1)] 3)) w.heap.size (some ⟨w3.heap.size, 0, none⟩) (succI l k).length 2 (succI l k) by rw [HS.out]; exact int_lit2 w3 _ hbYw.size ((r : Int) + 1) ((k : Int) + 1))
            have HN := Lib.hid (show 2 = (succI l k).length by rw [HS.out]; rfl)
            go_wp2_with (at_builtin; refine app_g rfl _ _ rfl w.heap.size A1 k c1 (succI l) rfl (some ⟨w3.heap.size, 0, none⟩) 2 2 (w3.alloc (.cells #[.int .i64 ((r : Int) + 1), .int .i64 ((k : Int) + 1)] 3)) rfl (w3.heap.size + 1) (by simp) rfl hGW.out HN.out hIW.out ?hn ?hb ?_)
            case hn => omega
            case hb => exact hbW.size
            intro A9 c9 w9 hg9 hgr9
            have hb9 : Below w.heap.size w w9 := (hbW.alloc hbW.size _).grown hgr9 (by have := hbW.size; simp at this ⊢; omega) (fun j hj => by obtain ⟨vs, hv, _⟩ := ho1; exact (OR.block hv j hj).1)
            go_wp2
            go_roundw
            case rel => exact ⟨k + 1, A9, c9, by omega, by go_num, rfl, hg9, hb9⟩
            case measure => simp [intOf]; omega
          | false =>
            have HS := Lib.hid (show succI l k = [((k : Int) + 1)] by rw [HS0.out, ey]; rfl)
            have hbW := hb3W
            have hGW := Lib.hid (ho1.below hb3V (Nat.le_refl _))
            have hIW := Lib.hid (show OI w3 w.heap.size (some ⟨w1.heap.size, 0, none⟩) (succI l k).length 1 (succI l k) by rw [HS.out]; exact OR.mono hI3 hs2)
            have HN := Lib.hid (show 1 = (succI l k).length by rw [HS.out]; rfl)
            go_wp2_with (at_builtin; refine app_g rfl _ _ rfl w.heap.size A1 k c1 (succI l) rfl (some ⟨w1.heap.size, 0, none⟩) 1 1 w3 rfl w3.heap.size rfl rfl hGW.out HN.out hIW.out ?hn ?hb ?_)
            case hn => omega
            case hb => exact hbW.size
            intro A9 c9 w9 hg9 hgr9
            have hb9 : Below w.heap.size w w9 := (hbW.alloc hbW.size _).grown hgr9 (by have := hbW.size; simp at this ⊢; omega) (fun j hj => by obtain ⟨vs, hv, _⟩ := ho1; exact (OR.block hv j hj).1)
            go_wp2
            go_roundw
            case rel => exact ⟨k + 1, A9, c9, by omega, by go_num, rfl, hg9, hb9⟩
            case measure => simp [intOf]; omega
    · obtain rfl : k = l.length := by omega
      have hs2 := hb.size
      go_wp2_with fail
      refine (sProgramValid_c A c l wr ((hA.below hb).more hb.size) (by omega)).mono ?_
      rintro e w1 ⟨rfl, hb1⟩
      rw [hp]
      have ho1 := ho.below hb1 (Nat.le_refl _)
      have hb2 := below_trans hb (Nat.le_refl _) hb1
      have hO := OI.empty_ w1 w.heap.size hb2.size
      have hbV := (Below.refl w1.heap.size w1).alloc (Nat.le_refl _) (.cells #[] 3)
      have hbW := below_trans hb2 (Nat.le_refl _) hbV
      have hGW := Lib.hid (ho1.below hbV (Nat.le_refl _))
      have hIW := Lib.hid (show OI (w1.alloc (.cells #[] 3)) w.heap.size (some ⟨w1.heap.size, 0, none⟩) (succI l l.length).length 0 (succI l l.length) by rw [succI_end]; exact hO)
      have HN := Lib.hid (show 0 = (succI l l.length).length by rw [succI_end]; rfl)
      go_wp2_with (at_builtin; refine app_g rfl _ _ rfl w.heap.size A1 l.length c1 (succI l) rfl (some ⟨w1.heap.size, 0, none⟩) 0 0 (w1.alloc (.cells #[] 3)) rfl (w1.heap.size + 1) (by simp) rfl hGW.out HN.out hIW.out ?hn ?hb ?_)
      case hn => omega
      case hb => exact hbW.size
      intro A9 c9 w9 hg9 hgr9
      have hb9 : Below w.heap.size w w9 := (hbW.alloc hbW.size _).grown hgr9 (by have := hbW.size; simp at this ⊢; omega) (fun j hj => by obtain ⟨vs, hv, _⟩ := ho1; exact (OR.block hv j hj).1)
      go_wp2
      go_ret
      exact ⟨A9, c9, rfl, hg9, hb9⟩


/-- The sum of n numbers in a block. -/
def cellSum (w : World) (g : Nat) : Nat → Nat
  | 0 => 0
  | n + 1 => cellSum w g n + (match w.cell? ⟨g, n, none⟩ with | some (.int _ v) => v.toNat | _ => 0)
theorem cellSum_eq {w : World} {base g N c : Nat} {s : Nat → Nat} (h : OI w base (some ⟨g, 0, none⟩) N c (lvRow s N)) : ∀ n, n ≤ N → cellSum w g n = sumN s n
  | 0, _ => rfl
  | n + 1, hn => by
    have h1 := (OI.at0 h).1 n _ (lvRow_get s (show n < N by omega))
    simp only [cellSum, sumN, h1, cellSum_eq h n (by omega)]
    simp

def flagN (v : Value) : Nat := match v with | .bool true => 1 | _ => 0

def LSRel (l : List Cd) (w2 : World) (lb : Nat) (cv : Value) (wr : World) : Prop :=
  ∃ (s : Nat → Nat) (ch : Bool), cv = .bool ch ∧ Hid (LInv l s) ∧ OI wr w2.heap.size (some ⟨lb, 0, none⟩) (l.length + 1) (l.length + 1) (lvRow s (l.length + 1)) ∧ Below w2.heap.size w2 wr ∧ Hid (ch = false → s = liveFix l)

def LMRel (l : List Cd) (w2 : World) (lb : Nat) (s0 : Nat → Nat) (cv kv : Value) (wr : World) : Prop :=
  ∃ (s : Nat → Nat) (ch : Bool) (k : Nat), cv = .bool ch ∧ k ≤ l.length ∧ kv = .int .i64 ((k : Int) - 1) ∧ Hid (Mid l s0 s k ch) ∧ OI wr w2.heap.size (some ⟨lb, 0, none⟩) (l.length + 1) (l.length + 1) (lvRow s (l.length + 1)) ∧ Below w2.heap.size w2 wr
theorem loopSet_no {l : List Cd} {k : Nat} (h : opAt l k ≠ 14 ∨ opAt l (aroundN l k) ≠ 13) : loopSet l k = 0 := by
  unfold loopSet
  rw [if_neg]
  simp
  intro h1
  exact h.resolve_left (fun e => e h1)

set_option maxRecDepth 100000 in
set_option maxHeartbeats 16000000 in
theorem sLiveSets_c (A : Option Addr) (c : Nat) (l : List Cd) (w : World) (hA : RdC w w.heap.size A l) (hp : pv l = true) :
    Calls Tryz.prog 143 #[.slice A l.length c] w (RetI w (lvRow (liveFix l) (l.length + 1))) := by
  have h40 := (pv_iff.1 hp).1
  have HP := Lib.hid hp
  have hmk : ∀ w : World, (Instr.makeSlice 24 (.int .i64 ((l.length : Int) + 1)) (.int .i64 ((l.length : Int) + 1))).run Tryz.prog w = .ok (.slice (some ⟨w.heap.size, 0, none⟩) (l.length + 1) (l.length + 1)) (w.alloc (.cells (zeroRow (.int .i64 0) (l.length + 1)) 3)) := by
    have := make_int (l.length + 1) (by omega)
    simpa using this
  go_enter Tryz.func143, Tryz.ntmps143
  go_wp2_with fail
  refine (sProgramValid_c A c l w hA (by omega)).mono ?_
  rintro e w1 ⟨rfl, hb1⟩
  rw [hp]
  go_wp2_with fail
  refine (sGraphOf_c A c l w1 ((hA.below hb1).more hb1.size) hp).mono ?_
  rintro e w2 ⟨Ag, cg, rfl, hG, hb2⟩
  replace hG := hG.rd
  have hbW := below_trans hb1 (Nat.le_refl _) hb2
  have hAW := (hA.below hbW).more hbW.size
  have hbsz := hbW.size
  go_wp2_with fail
  have hrow : OI (w2.alloc (.cells (zeroRow (.int .i64 0) (l.length + 1)) 3)) w2.heap.size (some ⟨w2.heap.size, 0, none⟩) (l.length + 1) (l.length + 1) (lvRow (fun _ => 0) (l.length + 1)) := by
    have := OR.lit w2 w2.heap.size 3 1 (l.length + 1) (zeroRow (.int .i64 0) (l.length + 1)) (Nat.le_refl _) (by omega) (by rw [zeroRow_size]; omega)
    have e : (zeroRow (.int .i64 0) (l.length + 1)).toList = (lvRow (fun _ => 0) (l.length + 1)).map (Value.int .i64) := by
      have e2 : lvRow (fun _ => 0) (l.length + 1) = List.replicate (l.length + 1) 0 := by
        apply List.ext_getElem?
        intro j
        by_cases h : j < l.length + 1 <;> simp [lvRow, h]
      rw [e2, List.map_replicate]
      exact toList_madeCells_one _ _
    rw [e] at this
    exact this
  have hbL := (Below.refl w2.heap.size w2).alloc (Nat.le_refl _) (.cells (zeroRow (.int .i64 0) (l.length + 1)) 3)
  generalize w2.alloc (.cells (zeroRow (.int .i64 0) (l.length + 1)) 3) = w3 at *
  obtain ⟨lb, hlb⟩ : ∃ lb, lb = w2.heap.size := ⟨_, rfl⟩
  rw [← hlb]
  conv at hrow => arg 3; rw [← hlb]
  have hlbB : w2.heap.size ≤ lb := by omega
  clear hmk hlb
  go_loopw [5] (fun cv wr => LSRel l w2 lb cv wr) (fun cv wr => 2 * (15 * l.length - cellSum wr lb l.length) + flagN cv)
  case atStart => exact ⟨fun _ => 0, true, rfl, Lib.hid (LInv.start l), hrow, hbL, Lib.hid (fun h => by cases h)⟩
  case round =>
    clear hrow hbL
    obtain ⟨s0, ch, rfl, HI, ho0, hb0, HF⟩ := hrel
    cases ch with
    | false =>
      have HS := Lib.hid (HF.out rfl)
      clear HF
      go_wp2
      go_ret
      rw [← HS.out]
      exact RetI.mono (RetI.of ho0 hb0) hbW
    | true =>
      have hq : IntKind.i64.wrap ((l.length : Int) - 1) = (l.length : Int) - 1 := IntWalk.i64_in _ (by omega)
      obtain ⟨wo, rfl⟩ : ∃ wo, wo = wr := ⟨_, rfl⟩
      go_wp2_with fail
      go_loopw [5, 6] (fun cv kv wr => LMRel l w2 lb s0 cv kv wr) (fun _ kv _ => (intOf kv + 1).toNat)
      case atStart => exact ⟨s0, false, l.length, rfl, Nat.le_refl _, rfl, Lib.hid (Mid.start HI.out), ho0, hb0⟩
      case round =>
        obtain ⟨s, ch, k, rfl, hk, rfl, HM, ho, hb⟩ := hrel
        rcases Nat.eq_zero_or_pos k with rfl | hk0
        · have hd : decide ((((0 : Nat) : Int) - 1) ≥ 0) = false := by simp
          have HO := Lib.hid ho
          have HO0 := Lib.hid ho0
          clear ho ho0 hG
          go_wp2
          refine ⟨⟨s, ch, rfl, Lib.hid HM.out.1, HO.out, hb, Lib.hid (fun h => by subst h; exact HM.out.done)⟩, ?_⟩
          have e1 := cellSum_eq HO.out l.length (by omega)
          have e0 := cellSum_eq HO0.out l.length (by omega)
          rw [e1, e0]
          have hle := sumN_le HM.out.1.b16 l.length
          cases ch with
          | true => have := HM.out.2.2 rfl; simp only [flagN]; omega
          | false => have := (HM.out.2.1 rfl).1; rw [this]; simp only [flagN]; omega
        · obtain ⟨kk, rfl⟩ : ∃ kk, k = kk + 1 := ⟨k - 1, by omega⟩
          have hkv : (((kk + 1 : Nat) : Int) - 1) = (kk : Int) := by omega
          rw [hkv]
          have hklt : kk < l.length := by omega
          have HB0 := Lib.hid hb
          have hsz := hb.size
          have hGr := hG.below hb
          have hAr := (hAW.below hb).more hsz
          go_wp2_with fail
          have hLr : RdI wr wr.heap.size (some ⟨lb, 0, none⟩) (lvRow s (l.length + 1)) := by
            have := OR.reads ho
            unfold RdI
            rw [lvRow_len]
            exact this
          refine (l19Out_c Ag _ cg _ l s kk _ (hGr.more hsz) hLr hp hklt HM.out.1.b16).mono ?_
          rintro e w3 ⟨rfl, hb3⟩
          have ho3 := OR.below ho hb3 (Nat.le_refl _)
          have hbW3 := below_trans hb (Nat.le_refl _) hb3
          have hx := cdAt_get' hklt
          have hop := cdAt_op l kk
          have hvx := pv_all hp _ (List.mem_of_getElem? hx)
          have hos : outSet l s kk < 16 := by have := outTo_lt HM.out.1.b16 l kk (succs l kk).length; rwa [outTo_all] at this
          have HLV := Lib.hid (show liveAt l s kk = (mdiff (outSet l s kk) (wset (cdAt l kk)) ||| reads (cdAt l kk)) ||| loopSet l kk from rfl)
          have hrd := reads_lt (cdAt l kk)
          generalize outSet l s kk = os at *
          generalize hcd : cdAt l kk = x at hx hop hvx HLV hrd
          have HOP := Lib.hid hop
          clear hcd ho hGr hLr hop
          obtain ⟨b, off, y, rfl, hbB, hy, d0, d1, d2, d3⟩ := (hAW.below hbW3).at_ hklt
          rw [hx] at hy
          injection hy with hy
          subst hy
          go_wp2_with fail
          refine (sCodeWrites_c x _).mono ?_
          rintro e w4 ⟨rfl, hb4⟩
          have ho4 := OR.below ho3 hb4 (Nat.le_refl _)
          have hbW4 := below_trans hbW3 (Nat.le_refl _) hb4
          replace d0 := cell_kept hb4 d0
          replace d1 := cell_kept hb4 d1
          replace d2 := cell_kept hb4 d2
          replace d3 := cell_kept hb4 d3
          have hwr : (wreg x = -1 ∧ wset x = 0) ∨ (∃ a : Nat, a ≤ 3 ∧ wreg x = (a : Int) ∧ wset x = 2 ^ a) := by
            have ha := cvOk_a hvx
            unfold wreg wset
            cases hc : (cvOk x && inR x.op 1 8) with
            | false => exact .inl ⟨rfl, rfl⟩
            | true => exact .inr ⟨x.a.toNat, by omega, by simp; omega, rfl⟩
          have HX := Lib.hid hx
          have HVX := Lib.hid hvx
          clear hx hvx ho3 hb3 hb4
          have hstep : ∃ u0 : Nat, u0 < 16 ∧ mdiff os (wset x) = u0 := ⟨_, mdiff_lt hos, rfl⟩
          obtain ⟨u0, hu0, HU⟩ := hstep
          rw [HU] at HLV
          have HU2 := Lib.hid HU
          clear HU
          rcases hwr with ⟨hw1, hw2⟩ | ⟨a, ha3, hw1, hw2⟩
          · have hos0 : os = u0 := by rw [← HU2.out, hw2, mdiff_zero']
            subst hos0
            rw [hw1]
            clear hw1 hw2
            go_wp2_with fail
            refine (sCodeReads_c x _).mono ?_
            rintro e w5 ⟨rfl, hb5⟩
            have ho5 := OR.below ho4 hb5 (Nat.le_refl _)
            have hbW5 := below_trans hbW4 (Nat.le_refl _) hb5
            replace d0 := cell_kept hb5 d0
            replace d1 := cell_kept hb5 d1
            replace d2 := cell_kept hb5 d2
            replace d3 := cell_kept hb5 d3
            have hor := or16 hu0 hrd
            have hu1 : os ||| reads x < 16 := Nat.or_lt_two_pow (n := 4) hu0 hrd
            generalize hnv : os ||| reads x = nv at hor hu1 HLV
            clear hnv ho4 hb5
            cases e14 : x.op == 14 with
            | false =>
              have HL0 := Lib.hid (show loopSet l kk = 0 from loopSet_no (.inl (by rw [← HOP.out]; exact beq_eq_false_iff_ne.1 e14)))
              have HLV2 := Lib.hid (show liveAt l s kk = nv by rw [HLV.out, HL0.out, Nat.or_zero])
              have HB := Lib.hid hbW5
              have HSET := Lib.hid (show OI (w5.setCell ⟨lb, kk, none⟩ (.int .i64 nv)) w2.heap.size (some ⟨lb, 0, none⟩) (l.length + 1) (l.length + 1) (lvRow (upd s kk nv) (l.length + 1)) by
                have := (OI.at0 ho5).2.2 kk (nv : Int)
                rwa [lvRow_set] at this)
              have f1 := (OI.at0 ho5).2.1 kk
              have cS := (OI.at0 ho5).1 kk _ (lvRow_get s (show kk < l.length + 1 by omega))
              have HMS := Lib.hid (show Mid l s0 (upd s kk nv) kk (ch || !((nv : Int) == (s kk : Int))) by
                have := HM.out.step HP.out (show kk < l.length by omega)
                rwa [HLV2.out] at this)
              have hkI : (kk : Int) < ((l.length + 1 : Nat) : Int) := by omega
              generalize (s kk : Int) = sk at *
              clear ho5 HLV
              cases ch with
              | true =>
                go_wp2
                go_roundw
                case rel => exact ⟨upd s kk nv, true, kk, rfl, by omega, by go_num, Lib.hid (by simpa using HMS.out), HSET.out, HB.out.setCell hlbB _⟩
                case measure => simp [intOf]
              | false =>
                go_wp2
                go_roundw
                case rel => exact ⟨upd s kk nv, ((nv : Int) != sk), kk, rfl, by omega, by go_num, Lib.hid (by simpa [bne] using HMS.out), HSET.out, HB.out.setCell hlbB _⟩
                case measure => simp [intOf]
            | true =>
              have h14 : x.op = 14 := beq_iff_eq.1 e14
              obtain ⟨a1, a2, a3⟩ := around_in hp HX.out (.inr h14)
              have HR0 := Lib.hid (show loopSet l kk = if opAt l (aroundN l kk) == 13 then 2 ^ (cdAt l (aroundN l kk)).a.toNat else 0 by simp [loopSet, ← HOP.out, h14])
              generalize aroundN l kk = r at a1 a2 a3 HR0
              have hsz5 := hbW5.size
              have hA5 := (hAW.below hbW5).more hsz5
              clear h14
              go_wp2_with fail
              refine (l4Around_c _ c l kk _ hA5 (by omega) (by omega)).mono ?_
              rintro e w6 ⟨rfl, hb6⟩
              rw [a1]
              have ho6 := OR.below ho5 hb6 (Nat.le_refl _)
              have hbW6 := below_trans hbW5 (Nat.le_refl _) hb6
              have hA6 := (hAW.below hbW6).more hbW6.size
              have hxr := cdAt_get' (show r < l.length by omega)
              have hopr := cdAt_op l r
              have hvr := cvOk_a (pv_all hp _ (List.mem_of_getElem? hxr))
              generalize cdAt l r = y at hxr hopr a3 hvr HR0
              obtain ⟨b2, off2, y2, e2, -, hy2, g0, g1, -, -⟩ := hA6.at_ (show r < l.length by omega)
              injection e2 with e2
              injection e2 with e2 e3
              subst e2 e3
              rw [hxr] at hy2
              injection hy2 with hy2
              subst hy2
              rw [← hopr] at HR0
              have hrl : (r : Int) < (l.length : Int) := by omega
              have hr0 : (0 : Int) ≤ (r : Int) := by omega
              replace d0 := cell_kept hb6 d0
              clear hxr hopr ho5 d1 d2 d3
              cases ey : y.op == 13 with
              | false =>
                have HL0 := Lib.hid (show loopSet l kk = 0 by rw [HR0.out, ey]; rfl)
                clear hb6 a1
                have HLV2 := Lib.hid (show liveAt l s kk = nv by rw [HLV.out, HL0.out, Nat.or_zero])
                have HB := Lib.hid hbW6
                have HSET := Lib.hid (show OI (w6.setCell ⟨lb, kk, none⟩ (.int .i64 nv)) w2.heap.size (some ⟨lb, 0, none⟩) (l.length + 1) (l.length + 1) (lvRow (upd s kk nv) (l.length + 1)) by
                  have := (OI.at0 ho6).2.2 kk (nv : Int)
                  rwa [lvRow_set] at this)
                have f1 := (OI.at0 ho6).2.1 kk
                have cS := (OI.at0 ho6).1 kk _ (lvRow_get s (show kk < l.length + 1 by omega))
                have HMS := Lib.hid (show Mid l s0 (upd s kk nv) kk (ch || !((nv : Int) == (s kk : Int))) by
                  have := HM.out.step HP.out (show kk < l.length by omega)
                  rwa [HLV2.out] at this)
                have hkI : (kk : Int) < ((l.length + 1 : Nat) : Int) := by omega
                generalize (s kk : Int) = sk at *
                clear ho6 HLV
                cases ch with
                | true =>
                  go_wp2
                  go_roundw
                  case rel => exact ⟨upd s kk nv, true, kk, rfl, by omega, by go_num, Lib.hid (by simpa using HMS.out), HSET.out, HB.out.setCell hlbB _⟩
                  case measure => simp [intOf]
                | false =>
                  go_wp2
                  go_roundw
                  case rel => exact ⟨upd s kk nv, ((nv : Int) != sk), kk, rfl, by omega, by go_num, Lib.hid (by simpa [bne] using HMS.out), HSET.out, HB.out.setCell hlbB _⟩
                  case measure => simp [intOf]
              | true =>
                obtain ⟨ya, hya⟩ := Int.eq_ofNat_of_zero_le hvr.1
                have hya3 : ya ≤ 3 := by omega
                have HL0 := Lib.hid (show loopSet l kk = 2 ^ ya by rw [HR0.out, ey, hya]; rfl)
                rw [hya] at g1
                have hor2 := or_bit nv ya (by omega) (by omega)
                have hp8 : 2 ^ ya ≤ 2 ^ 3 := Nat.pow_le_pow_right (by decide) hya3
                have hlt2 : nv ||| 2 ^ ya < 16 := Nat.or_lt_two_pow (n := 4) hu1 (by omega)
                generalize hnv2 : nv ||| 2 ^ ya = nv2 at hor2 hlt2
                have HNV := Lib.hid hnv2
                clear hnv2 hya hp8
                go_wp2_with fail
                refine (l4Around_c _ c l kk _ hA6 (by omega) (by omega)).mono ?_
                rintro e w7 ⟨rfl, hb7⟩
                rw [a1]
                have ho7 := OR.below ho6 hb7 (Nat.le_refl _)
                have hbW7 := below_trans hbW6 (Nat.le_refl _) hb7
                replace g0 := cell_kept hb7 g0
                replace g1 := cell_kept hb7 g1
                clear hb6 hb7 a1 ho6
                have HLV2 := Lib.hid (show liveAt l s kk = nv2 by rw [HLV.out, HL0.out, HNV.out])
                have HB := Lib.hid hbW7
                have HSET := Lib.hid (show OI (w7.setCell ⟨lb, kk, none⟩ (.int .i64 nv2)) w2.heap.size (some ⟨lb, 0, none⟩) (l.length + 1) (l.length + 1) (lvRow (upd s kk nv2) (l.length + 1)) by
                  have := (OI.at0 ho7).2.2 kk (nv2 : Int)
                  rwa [lvRow_set] at this)
                have f1 := (OI.at0 ho7).2.1 kk
                have cS := (OI.at0 ho7).1 kk _ (lvRow_get s (show kk < l.length + 1 by omega))
                have HMS := Lib.hid (show Mid l s0 (upd s kk nv2) kk (ch || !((nv2 : Int) == (s kk : Int))) by
                  have := HM.out.step HP.out (show kk < l.length by omega)
                  rwa [HLV2.out] at this)
                have hkI : (kk : Int) < ((l.length + 1 : Nat) : Int) := by omega
                generalize (s kk : Int) = sk at *
                clear ho7 HLV
                cases ch with
                | true =>
                  go_wp2
                  go_roundw
                  case rel => exact ⟨upd s kk nv2, true, kk, rfl, by omega, by go_num, Lib.hid (by simpa using HMS.out), HSET.out, HB.out.setCell hlbB _⟩
                  case measure => simp [intOf]
                | false =>
                  go_wp2
                  go_roundw
                  case rel => exact ⟨upd s kk nv2, ((nv2 : Int) != sk), kk, rfl, by omega, by go_num, Lib.hid (by simpa [bne] using HMS.out), HSET.out, HB.out.setCell hlbB _⟩
                  case measure => simp [intOf]
          · have han := bits_andNot64 os (2 ^ a) (by omega) (pow_small a (by omega))
            rw [← wrap64_pow a (by omega)] at han
            rw [hw1]
            have hu := HU2.out
            rw [hw2] at hu
            rw [hu] at han
            clear hw1 hw2 hu
            go_wp2_with fail
            refine (sCodeReads_c x _).mono ?_
            rintro e w5 ⟨rfl, hb5⟩
            have ho5 := OR.below ho4 hb5 (Nat.le_refl _)
            have hbW5 := below_trans hbW4 (Nat.le_refl _) hb5
            replace d0 := cell_kept hb5 d0
            replace d1 := cell_kept hb5 d1
            replace d2 := cell_kept hb5 d2
            replace d3 := cell_kept hb5 d3
            have hor := or16 hu0 hrd
            have hu1 : u0 ||| reads x < 16 := Nat.or_lt_two_pow (n := 4) hu0 hrd
            generalize hnv : u0 ||| reads x = nv at hor hu1 HLV
            clear hnv ho4 hb5
            cases e14 : x.op == 14 with
            | false =>
              have HL0 := Lib.hid (show loopSet l kk = 0 from loopSet_no (.inl (by rw [← HOP.out]; exact beq_eq_false_iff_ne.1 e14)))
              have HLV2 := Lib.hid (show liveAt l s kk = nv by rw [HLV.out, HL0.out, Nat.or_zero])
              have HB := Lib.hid hbW5
              have HSET := Lib.hid (show OI (w5.setCell ⟨lb, kk, none⟩ (.int .i64 nv)) w2.heap.size (some ⟨lb, 0, none⟩) (l.length + 1) (l.length + 1) (lvRow (upd s kk nv) (l.length + 1)) by
                have := (OI.at0 ho5).2.2 kk (nv : Int)
                rwa [lvRow_set] at this)
              have f1 := (OI.at0 ho5).2.1 kk
              have cS := (OI.at0 ho5).1 kk _ (lvRow_get s (show kk < l.length + 1 by omega))
              have HMS := Lib.hid (show Mid l s0 (upd s kk nv) kk (ch || !((nv : Int) == (s kk : Int))) by
                have := HM.out.step HP.out (show kk < l.length by omega)
                rwa [HLV2.out] at this)
              have hkI : (kk : Int) < ((l.length + 1 : Nat) : Int) := by omega
              generalize (s kk : Int) = sk at *
              clear ho5 HLV
              cases ch with
              | true =>
                go_wp2
                go_roundw
                case rel => exact ⟨upd s kk nv, true, kk, rfl, by omega, by go_num, Lib.hid (by simpa using HMS.out), HSET.out, HB.out.setCell hlbB _⟩
                case measure => simp [intOf]
              | false =>
                go_wp2
                go_roundw
                case rel => exact ⟨upd s kk nv, ((nv : Int) != sk), kk, rfl, by omega, by go_num, Lib.hid (by simpa [bne] using HMS.out), HSET.out, HB.out.setCell hlbB _⟩
                case measure => simp [intOf]
            | true =>
              have h14 : x.op = 14 := beq_iff_eq.1 e14
              obtain ⟨a1, a2, a3⟩ := around_in hp HX.out (.inr h14)
              have HR0 := Lib.hid (show loopSet l kk = if opAt l (aroundN l kk) == 13 then 2 ^ (cdAt l (aroundN l kk)).a.toNat else 0 by simp [loopSet, ← HOP.out, h14])
              generalize aroundN l kk = r at a1 a2 a3 HR0
              have hsz5 := hbW5.size
              have hA5 := (hAW.below hbW5).more hsz5
              clear h14
              go_wp2_with fail
              refine (l4Around_c _ c l kk _ hA5 (by omega) (by omega)).mono ?_
              rintro e w6 ⟨rfl, hb6⟩
              rw [a1]
              have ho6 := OR.below ho5 hb6 (Nat.le_refl _)
              have hbW6 := below_trans hbW5 (Nat.le_refl _) hb6
              have hA6 := (hAW.below hbW6).more hbW6.size
              have hxr := cdAt_get' (show r < l.length by omega)
              have hopr := cdAt_op l r
              have hvr := cvOk_a (pv_all hp _ (List.mem_of_getElem? hxr))
              generalize cdAt l r = y at hxr hopr a3 hvr HR0
              obtain ⟨b2, off2, y2, e2, -, hy2, g0, g1, -, -⟩ := hA6.at_ (show r < l.length by omega)
              injection e2 with e2
              injection e2 with e2 e3
              subst e2 e3
              rw [hxr] at hy2
              injection hy2 with hy2
              subst hy2
              rw [← hopr] at HR0
              have hrl : (r : Int) < (l.length : Int) := by omega
              have hr0 : (0 : Int) ≤ (r : Int) := by omega
              replace d0 := cell_kept hb6 d0
              clear hxr hopr ho5 d1 d2 d3
              cases ey : y.op == 13 with
              | false =>
                have HL0 := Lib.hid (show loopSet l kk = 0 by rw [HR0.out, ey]; rfl)
                clear hb6 a1
                have HLV2 := Lib.hid (show liveAt l s kk = nv by rw [HLV.out, HL0.out, Nat.or_zero])
                have HB := Lib.hid hbW6
                have HSET := Lib.hid (show OI (w6.setCell ⟨lb, kk, none⟩ (.int .i64 nv)) w2.heap.size (some ⟨lb, 0, none⟩) (l.length + 1) (l.length + 1) (lvRow (upd s kk nv) (l.length + 1)) by
                  have := (OI.at0 ho6).2.2 kk (nv : Int)
                  rwa [lvRow_set] at this)
                have f1 := (OI.at0 ho6).2.1 kk
                have cS := (OI.at0 ho6).1 kk _ (lvRow_get s (show kk < l.length + 1 by omega))
                have HMS := Lib.hid (show Mid l s0 (upd s kk nv) kk (ch || !((nv : Int) == (s kk : Int))) by
                  have := HM.out.step HP.out (show kk < l.length by omega)
                  rwa [HLV2.out] at this)
                have hkI : (kk : Int) < ((l.length + 1 : Nat) : Int) := by omega
                generalize (s kk : Int) = sk at *
                clear ho6 HLV
                cases ch with
                | true =>
                  go_wp2
                  go_roundw
                  case rel => exact ⟨upd s kk nv, true, kk, rfl, by omega, by go_num, Lib.hid (by simpa using HMS.out), HSET.out, HB.out.setCell hlbB _⟩
                  case measure => simp [intOf]
                | false =>
                  go_wp2
                  go_roundw
                  case rel => exact ⟨upd s kk nv, ((nv : Int) != sk), kk, rfl, by omega, by go_num, Lib.hid (by simpa [bne] using HMS.out), HSET.out, HB.out.setCell hlbB _⟩
                  case measure => simp [intOf]
              | true =>
                obtain ⟨ya, hya⟩ := Int.eq_ofNat_of_zero_le hvr.1
                have hya3 : ya ≤ 3 := by omega
                have HL0 := Lib.hid (show loopSet l kk = 2 ^ ya by rw [HR0.out, ey, hya]; rfl)
                rw [hya] at g1
                have hor2 := or_bit nv ya (by omega) (by omega)
                have hp8 : 2 ^ ya ≤ 2 ^ 3 := Nat.pow_le_pow_right (by decide) hya3
                have hlt2 : nv ||| 2 ^ ya < 16 := Nat.or_lt_two_pow (n := 4) hu1 (by omega)
                generalize hnv2 : nv ||| 2 ^ ya = nv2 at hor2 hlt2
                have HNV := Lib.hid hnv2
                clear hnv2 hya hp8
                go_wp2_with fail
                refine (l4Around_c _ c l kk _ hA6 (by omega) (by omega)).mono ?_
                rintro e w7 ⟨rfl, hb7⟩
                rw [a1]
                have ho7 := OR.below ho6 hb7 (Nat.le_refl _)
                have hbW7 := below_trans hbW6 (Nat.le_refl _) hb7
                replace g0 := cell_kept hb7 g0
                replace g1 := cell_kept hb7 g1
                clear hb6 hb7 a1 ho6
                have HLV2 := Lib.hid (show liveAt l s kk = nv2 by rw [HLV.out, HL0.out, HNV.out])
                have HB := Lib.hid hbW7
                have HSET := Lib.hid (show OI (w7.setCell ⟨lb, kk, none⟩ (.int .i64 nv2)) w2.heap.size (some ⟨lb, 0, none⟩) (l.length + 1) (l.length + 1) (lvRow (upd s kk nv2) (l.length + 1)) by
                  have := (OI.at0 ho7).2.2 kk (nv2 : Int)
                  rwa [lvRow_set] at this)
                have f1 := (OI.at0 ho7).2.1 kk
                have cS := (OI.at0 ho7).1 kk _ (lvRow_get s (show kk < l.length + 1 by omega))
                have HMS := Lib.hid (show Mid l s0 (upd s kk nv2) kk (ch || !((nv2 : Int) == (s kk : Int))) by
                  have := HM.out.step HP.out (show kk < l.length by omega)
                  rwa [HLV2.out] at this)
                have hkI : (kk : Int) < ((l.length + 1 : Nat) : Int) := by omega
                generalize (s kk : Int) = sk at *
                clear ho7 HLV
                cases ch with
                | true =>
                  go_wp2
                  go_roundw
                  case rel => exact ⟨upd s kk nv2, true, kk, rfl, by omega, by go_num, Lib.hid (by simpa using HMS.out), HSET.out, HB.out.setCell hlbB _⟩
                  case measure => simp [intOf]
                | false =>
                  go_wp2
                  go_roundw
                  case rel => exact ⟨upd s kk nv2, ((nv2 : Int) != sk), kk, rfl, by omega, by go_num, Lib.hid (by simpa [bne] using HMS.out), HSET.out, HB.out.setCell hlbB _⟩
                  case measure => simp [intOf]

end Go.Proofs.YtelbfeidpcojmaaGreat
