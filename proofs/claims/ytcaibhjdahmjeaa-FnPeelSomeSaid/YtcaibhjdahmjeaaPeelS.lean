/- The reference's PeelLoop. -/
import Derived.Test.YtcaibhjdahmjeaaMem2
import Derived.Test.YtcaibhjdahmjeaaSyn
import Derived.Test.YtcaibhjdahmjeaaEnds
import Derived.Test.YtcaibhjdahmjeaaValid1
import Derived.Test.YtcaibhjdahmjeaaPicks
namespace Go.Proofs.Ytcaibhjdahmjeaa
open Go.RowKit
set_option linter.unusedVariables false
set_option linter.unusedSimpArgs false

set_option maxRecDepth 100000 in
set_option maxHeartbeats 4000000 in
theorem sPeelLoop_c (A : Option Addr) (c : Nat) (l : List Cd) (k : Int) (w : World) (hA : RdC w w.heap.size A l) (hl : l.length ≤ 1000000000) (hc : A = none → c = 0) (hcap : l.length ≤ c) :
    Calls Try.prog 32 #[.slice A l.length c, .int .i64 k] w (RetCb w (peelR l k) (peelB l k)) := by
  cases hp : pv l with
  | false =>
    have h1 : peelR l k = [] := by simp [peelR, hp]
    have h2 : peelB l k = false := by simp [peelB, hp]
    rw [h1, h2]
    go_enter Try.func32, Try.ntmps32
    go_wp2_with fail
    refine (sProgramValid_c A c l w hA hl).mono ?_
    rintro e w1 ⟨rfl, hb1⟩
    rw [hp]
    go_wp2
    go_ret2
    exact RetCb.of (OC.empty_ w1 _ hb1.size) (hb1.alloc hb1.size _)
  | true =>
    have h40 := (pv_iff.1 hp).1
    have hR := Lib.hid (show peelR l k = if peelOk l k then peelOut l k.toNat else l by simp [peelR, hp])
    have hB := Lib.hid (show peelB l k = peelOk l k by simp [peelB, hp])
    have q1 : IntKind.i64.wrap ((l.length : Int) - 1) = (l.length : Int) - 1 := IntWalk.i64_in _ (by omega)
    go_enter Try.func32, Try.ntmps32
    go_wp2_with fail
    refine (sProgramValid_c A c l w hA hl).mono ?_
    rintro e w1 ⟨rfl, hb1⟩
    rw [hp]
    have hA1 := Lib.hid ((hA.below hb1).below ((Below.refl _ w1).alloc hb1.size (.cells #[] 48)))
    have ho0 := Lib.hid (OC.empty_ w1 w.heap.size hb1.size)
    have hb2 := hb1.alloc hb1.size (.cells #[] 48)
    go_wp2_with (at_builtin; refine app_cs rfl _ _ rfl w.heap.size _ _ _ _ ho0.out rfl w.heap.size A l.length c l rfl rfl hc hA1.out ?hn ?hb ?_)
    case hn => omega
    case hb => simp; have := hb1.size; omega
    intro A' c' w3 ho3 hg3
    have hb3 := below_gr hb2 hb2.size ho0.out (Nat.le_refl _) hg3
    try simp only [Nat.zero_add, List.nil_append] at ho3
    have hs3 := hb3.size
    clear ho0 hA1 hb2 hg3
    cases hin : inR k 0 ((l.length : Int) - 1) with
    | false =>
      have hk := Lib.hid (show peelOk l k = false by simp [peelOk, hin])
      go_wp2_with fail
      refine (l1In_c k 0 ((l.length : Int) - 1) w3).mono ?_
      rintro e w4 ⟨rfl, rfl⟩
      rw [hin]
      go_wp2
      go_ret2
      rw [hR.out, hB.out, hk.out]
      exact RetCb.of ho3 hb3
    | true =>
      obtain ⟨n, rfl⟩ : ∃ n : Nat, k = (n : Int) := ⟨k.toNat, by have := (inR_iff.1 hin).1; omega⟩
      have hn : n < l.length := by have := (inR_iff.1 hin).2; omega
      have q2 : (0 : Int) ≤ (n : Int) := by omega
      have q3 : (n : Int) < (l.length : Int) := by omega
      obtain ⟨b, off, x, rfl, hbB, hx, c0, c1, c2, c3⟩ := (hA.below hb3).at_ hn
      go_wp2_with fail
      refine (l1In_c n 0 ((l.length : Int) - 1) w3).mono ?_
      rintro e w4 ⟨rfl, rfl⟩
      rw [hin]
      have hcd := cdAt_get hx
      have HX := Lib.hid hx
      have HIN := Lib.hid hin
      clear hx hin
      cases e13 : x.op == 13 with
      | false =>
        have hk := Lib.hid (show peelOk l n = false by simp [peelOk, HIN.out, hcd, e13])
        go_wp2
        go_ret2
        rw [hR.out, hB.out, hk.out]
        exact RetCb.of ho3 hb3
      | true =>
        have hk := Lib.hid (show peelOk l n = pv (peelOut l n) by simp [peelOk, HIN.out, hcd, e13])
        have hop : opB x = true := by simp [opB, beq_iff_eq.1 e13]
        obtain ⟨he1, he2, he3⟩ := pEnd_bound hp HX.out hop
        have HO := Lib.hid (show peelOut l n = l.take n ++ [cIf x.a] ++ bodyL l n ++ (if 1 < x.b then [cLoop x.a (x.b - 1)] ++ bodyL l n ++ [cEnd] else []) ++ l.drop (pEnd l n) by simp [peelOut, hcd])
        have hE : pEnd l n = pEnd l n := rfl
        generalize hend : pEnd l n = m at HO he1 he2 he3
        have HB := Lib.hid (show bodyL l n = (l.drop (n + 1)).take (m - (n + 1)) by simp [bodyL, hend])
        clear hend hE hop hcd
        go_wp2_with fail
        refine (l4End_c _ c l n w3 ((hA.below hb3).more hb3.size) hl hn).mono ?_
        rintro e w5 ⟨rfl, hb5⟩
        rw [he1]
        have ho5 := OR.below ho3 hb5 (Nat.le_refl _)
        have hb5' := below_trans hb3 (Nat.le_refl _) hb5
        have hA5 := (hA.below hb5').more hb5'.size
        clear c0 c1 c2 c3 ho3
        have hoE := Lib.hid (OC.empty_ w5 w5.heap.size (Nat.le_refl _))
        have hbE := (Below.refl w5.heap.size w5).alloc (Nat.le_refl _) (.cells #[] 48)
        have hAE := Lib.hid ((hA5.below hbE).sub 0 n (by omega))
        have q4 : (n : Int) ≤ (c : Int) := by omega
        go_wp2_with (at_builtin; refine app_cs rfl _ _ rfl w5.heap.size _ _ _ _ hoE.out rfl w5.heap.size _ n _ _ rfl ?hm ?hc hAE.out ?hn ?hb ?_)
        case hm => simp; omega
        case hc => simp
        case hn => omega
        case hb => exact hbE.size
        intro A6 cA6 w6 ho6 hg6
        have hb6 := below_gr hbE hbE.size hoE.out (Nat.le_refl _) hg6
        have hA6 := hA5.below hb6
        try simp only [List.drop_zero] at ho6
        clear hoE hbE hAE hg6
        obtain ⟨-, c0, c1, c2, c3⟩ := hA6.at0 HX.out
        have hs6 := hb6.size
        go_wp2_with (at_builtin; refine app_code rfl _ _ rfl w5.heap.size _ _ _ _ (ho6.alloc _) rfl (cIf x.a) w6.heap.size 1 rfl ?h0 ?h1 ?h2 ?h3 ?hn ?hb ?_)
        case h0 => simp [go_sem, cIf, cLoop, cEnd]
        case h1 => simp [go_sem, cIf, cLoop, cEnd]
        case h2 => simp [go_sem, cIf, cLoop, cEnd]
        case h3 => simp [go_sem, cIf, cLoop, cEnd]
        try case hn => omega
        case hb => simp; omega
        intro A7 cA7 w7 ho7 hg7
        have hb7 := below_app hb6 hb6.size ho6 (Nat.le_refl _) hg7
        have hA7 := hA5.below hb7
        clear hg7
        have q5 : IntKind.i64.wrap ((n : Int) + 1) = (n : Int) + 1 := IntWalk.i64_in _ (by omega)
        have q6 : (0 : Int) ≤ (n : Int) + 1 := by omega
        have q7 : (n : Int) + 1 ≤ (m : Int) := by omega
        have q8 : (m : Int) ≤ (c : Int) := by omega
        have q9 : ((n : Int) + 1).toNat = n + 1 := by omega
        clear c0 c1 c2 c3
        have hAs8 := Lib.hid (hA7.sub (n + 1) (m - (n + 1)) (by omega))
        go_wp2_with (at_builtin; refine app_cs rfl _ _ rfl w5.heap.size _ _ _ _ ho7 rfl w5.heap.size _ _ _ _ rfl ?hm ?hc hAs8.out ?hn ?hb ?_)
        try case hm => (simp; try omega)
        try case hc => simp
        try case hn => omega
        case hb => exact hb7.size
        intro A8 cA8 w8 ho8 hg8
        have hb8 := below_gr hb7 hb7.size ho7 (Nat.le_refl _) hg8
        have hA8 := hA5.below hb8
        clear hAs8 hg8
        obtain ⟨-, c0, c1, c2, c3⟩ := hA8.at0 HX.out
        by_cases hgt : 1 < x.b
        · have hgf : (1 < x.b) = True := by simp [hgt]
          have hxv := (pv_all hp) x (List.mem_of_getElem? HX.out)
          have hxb : 1 ≤ x.b ∧ x.b ≤ 4 := by
            have h13 := beq_iff_eq.1 e13
            simp [cvOk, h13, inR] at hxv
            omega
          have r1 : IntKind.i64.wrap (x.b - 1) = x.b - 1 := IntWalk.i64_in _ (by omega)
          obtain ⟨i0, hi0, hz0, hz1, hz2⟩ := info_parts infoCode
          have hne : Value.ownBlock (.slice A8 m cA8) ≠ some b := fun e => by have := (OR.block ho8 b e).1; have := hb5'.size; omega
          have hbl : b < w8.heap.size := by have := hb8.size; have := hb5'.size; omega
          clear c0 c3 hxv
          go_wp2_with fail
          go_region_held3 (fun w' => w'.cell? ⟨b, off + n * 4 + 1, none⟩ = some (.int .i64 x.a) ∧ w'.cell? ⟨b, off + n * 4 + 2, none⟩ = some (.int .i64 x.b))
            (first
              | go_keep
              | (go_split_ands
                 refine ⟨?_, ?_⟩ <;> (rw [hgrow.cell_far _ (by simp; omega) (Ne.symm hne)]; assumption)))
            ((refine step_append_lies _ (by rfl) _ _ _ (by rfl) w5.heap.size 48 i0 _ 4 32 Try.underlying23 hi0 hz0 hz1 hz2 rfl (by omega) (.slice A8 m cA8) m _ (by rfl) ((OR.alloc ho8 _).drew)
                ⟨w8.heap.size, 0, none⟩ 1 1 [.int .i64 13, .int .i64 x.a, .int .i64 (x.b - 1), .int .i64 0] (by rfl) (by rfl) (World.news_of_block (cs := #[.int .i64 13, .int .i64 x.a, .int .i64 (x.b - 1), .int .i64 0]) (t := 48) (fr := (0, 0)) (heap_alloc_new w8 _)) (by simp [Value.oneCell'])
                (by omega) (by unfold maxLen; omega) (by omega) (by simp; have := hb8.size; omega) (w8.heap.size + 1) (by simp) ?_; intro gg cap w9 ho9 hgrow hat hlt3))
          clear hi0 hz0 hz1 hz2 c1 c2
          replace ho9 : OC w9 w5.heap.size (some ⟨gg, 0, none⟩) (m + 1) cap (l.take n ++ cIf x.a :: (l.drop (n + 1)).take (m - (n + 1)) ++ [cLoop x.a (x.b - 1)]) := by
            unfold OC; rw [cdsCells_append]; exact ho9
          have hb9 := below_app hb8 hb8.size ho8 (Nat.le_refl _) (grown_drew hgrow)
          have hA9 := hA5.below hb9
          have hs9 := hb9.size
          have hAs10 := Lib.hid (hA9.sub (n + 1) (m - (n + 1)) (by omega))
          go_wp2_with (at_builtin; refine app_cs rfl _ _ rfl w5.heap.size _ _ _ _ ho9 rfl w5.heap.size _ _ _ _ rfl ?hm ?hc hAs10.out ?hn ?hb ?_)
          try case hm => (simp; try omega)
          try case hc => simp
          try case hn => omega
          case hb => exact hb9.size
          intro A10 cA10 w10 ho10 hg10
          have hb10 := below_gr hb9 hb9.size ho9 (Nat.le_refl _) hg10
          have hA10 := hA5.below hb10
          clear hAs10 hg10
          have hs10 := hb10.size
          go_wp2_with (at_builtin; refine app_code rfl _ _ rfl w5.heap.size _ _ _ _ (ho10.alloc _) rfl cEnd w10.heap.size 1 rfl ?h0 ?h1 ?h2 ?h3 ?hn ?hb ?_)
          case h0 => simp [go_sem, cIf, cLoop, cEnd]
          case h1 => simp [go_sem, cIf, cLoop, cEnd]
          case h2 => simp [go_sem, cIf, cLoop, cEnd]
          case h3 => simp [go_sem, cIf, cLoop, cEnd]
          try case hn => omega
          case hb => simp; omega
          intro A11 cA11 w11 ho11 hg11
          have hb11 := below_app hb10 hb10.size ho10 (Nat.le_refl _) hg11
          have hA11 := hA5.below hb11
          clear hg11
          have hAs20 := Lib.hid (hA11.sub m (l.length - m) (by omega))
          go_wp2_with (at_builtin; refine app_cs rfl _ _ rfl w5.heap.size _ _ _ _ ho11 rfl w5.heap.size _ _ _ _ rfl ?hm ?hc hAs20.out ?hn ?hb ?_)
          try case hm => (simp; try omega)
          try case hc => simp
          try case hn => omega
          case hb => exact hb11.size
          intro A20 cA20 w20 ho20 hg20
          have hb20 := below_gr hb11 hb11.size ho11 (Nat.le_refl _) hg20
          have hA20 := hA5.below hb20
          clear hAs20 hg20
          have hX : peelOut l n = l.take n ++ cIf x.a :: ((l.drop (n + 1)).take (m - (n + 1)) ++ cLoop x.a (x.b - 1) :: ((l.drop (n + 1)).take (m - (n + 1)) ++ cEnd :: (l.drop m).take (l.length - m))) := by
            rw [HO.out, HB.out, if_pos hgt, List.take_of_length_le (l := l.drop m) (by simp)]
            simp only [List.append_assoc, List.append_nil, List.cons_append, List.nil_append]
          rw [← hX] at ho20
          have hlen := OC.len ho20
          have hpl := peelOut_len l n
          rw [← hlen] at ho20 ⊢
          clear hX hlen
          go_wp2_with fail
          refine (sProgramValid_c A20 cA20 (peelOut l n) w20 (OC.rd ho20) (by omega)).mono ?_
          rintro e w21 ⟨rfl, hb21⟩
          have hb22 := below_trans hb20 (Nat.le_refl _) hb21
          have hb23 := below_trans hb5' (Nat.le_refl _) hb22
          have ho21 := OR.below ho20 hb21 (Nat.le_refl _)
          have ho6' := OR.below ho5 hb22 (Nat.le_refl _)
          cases hpp : pv (peelOut l n) with
          | false =>
            have hpp' := Lib.hid hpp
            go_wp2
            go_ret2
            rw [hR.out, hB.out, hk.out, hpp]
            exact RetCb.of ho6' hb23
          | true =>
            have hpp' := Lib.hid hpp
            go_wp2
            go_ret2
            rw [hR.out, hB.out, hk.out, hpp]
            exact RetCb.of (OR.mono ho21 hb5'.size) hb23
        · clear c0 c1 c3
          have hAs20 := Lib.hid (hA8.sub m (l.length - m) (by omega))
          go_wp2_with (at_builtin; refine app_cs rfl _ _ rfl w5.heap.size _ _ _ _ ho8 rfl w5.heap.size _ _ _ _ rfl ?hm ?hc hAs20.out ?hn ?hb ?_)
          try case hm => (simp; try omega)
          try case hc => simp
          try case hn => omega
          case hb => exact hb8.size
          intro A20 cA20 w20 ho20 hg20
          have hb20 := below_gr hb8 hb8.size ho8 (Nat.le_refl _) hg20
          have hA20 := hA5.below hb20
          clear hAs20 hg20
          have hX : peelOut l n = l.take n ++ cIf x.a :: ((l.drop (n + 1)).take (m - (n + 1)) ++ (l.drop m).take (l.length - m)) := by
            rw [HO.out, HB.out, if_neg (by omega), List.take_of_length_le (l := l.drop m) (by simp)]
            simp only [List.append_assoc, List.append_nil, List.cons_append, List.nil_append]
          rw [← hX] at ho20
          have hlen := OC.len ho20
          have hpl := peelOut_len l n
          rw [← hlen] at ho20 ⊢
          clear hX hlen
          go_wp2_with fail
          refine (sProgramValid_c A20 cA20 (peelOut l n) w20 (OC.rd ho20) (by omega)).mono ?_
          rintro e w21 ⟨rfl, hb21⟩
          have hb22 := below_trans hb20 (Nat.le_refl _) hb21
          have hb23 := below_trans hb5' (Nat.le_refl _) hb22
          have ho21 := OR.below ho20 hb21 (Nat.le_refl _)
          have ho6' := OR.below ho5 hb22 (Nat.le_refl _)
          cases hpp : pv (peelOut l n) with
          | false =>
            have hpp' := Lib.hid hpp
            go_wp2
            go_ret2
            rw [hR.out, hB.out, hk.out, hpp]
            exact RetCb.of ho6' hb23
          | true =>
            have hpp' := Lib.hid hpp
            go_wp2
            go_ret2
            rw [hR.out, hB.out, hk.out, hpp]
            exact RetCb.of (OR.mono ho21 hb5'.size) hb23
end Go.Proofs.Ytcaibhjdahmjeaa
