/- FnLaunchPair: the walk of the law. -/
import Derived.Test.YtakeacndmnnbmaaGreatRunD
import Derived.Test.YtakeacndmnnbmaaGreatChain
import Derived.Test.YtakeacndmnnbmaaGreatSame
namespace Go.Proofs.YtakeacndmnnbmaaGreat
open Go.RowKit
set_option linter.unusedVariables false
set_option linter.unusedSimpArgs false
theorem RdP.two (w : World) {A1 A2 : Option Addr} {c1 c2 : Nat} {l l2 : List Cd} (r1 : RdC w w.heap.size A1 l) (r2 : RdC w w.heap.size A2 l2) :
    RdP (w.alloc (.cells #[.slice A1 l.length c1, .slice A2 l2.length c2] 27)) (w.heap.size + 1) (some ⟨w.heap.size, 0, none⟩) (fun i => if i = 0 then A1 else A2) (fun i => if i = 0 then c1 else c2) [l, l2] := by
  have hn := heap_alloc_new w (.cells #[.slice A1 l.length c1, .slice A2 l2.length c2] 27)
  have hb : Below w.heap.size w (w.alloc (.cells #[.slice A1 l.length c1, .slice A2 l2.length c2] 27)) := Below.alloc (Below.refl _ _) (Nat.le_refl _) _
  refine ⟨⟨rfl, fun _ => ⟨w.heap.size, 0, rfl, by omega, fun j u hu => ?_⟩⟩, fun i hi => ?_⟩
  · have hj : j < 2 := (List.getElem?_eq_some_iff.1 hu).1
    rw [Nat.zero_add, cell_of_heap hn j]
    have : j = 0 ∨ j = 1 := by omega
    rcases this with rfl | rfl
    · exact hu
    · exact hu
  · have : i = 0 ∨ i = 1 := by have : i < 2 := hi; omega
    rcases this with rfl | rfl
    · exact (r1.below hb).more (by omega)
    · exact (r2.below hb).more (by omega)
theorem two_len {l l2 : List Cd} {b : Nat} (h1 : l.length ≤ b) (h2 : l2.length ≤ b) : ∀ i, i < [l, l2].length → ([l, l2].getD i []).length ≤ b := fun i hi => by
  have : i = 0 ∨ i = 1 := by have : i < 2 := hi; omega
  rcases this with rfl | rfl
  · exact h1
  · exact h2
set_option maxRecDepth 100000 in
set_option maxHeartbeats 8000000 in
theorem fnLaunchPair_c (w : World) (A : Option Addr) (c : Nat) (bs : List Int) (hA : Reads w w.heap.size 1 A bs.length (bs.map (.int .u8))) (hl : bs.length ≤ 9223372036854775807) (hb : ∀ x ∈ bs, 0 ≤ x ∧ x ≤ 255) (hcap : bs.length ≤ c) (Am : Option Addr) (cm : Nat) (ms : List Int) (hAm : Reads w w.heap.size 1 Am ms.length (ms.map (.int .u8))) (hml : ms.length ≤ 9223372036854775807) (hmb : ∀ x ∈ ms, 0 ≤ x ∧ x ≤ 255) (hmcap : ms.length ≤ cm) :
    Calls Tryz.prog 6 #[.slice A bs.length c, .slice Am ms.length cm] w fun e w' => e = .returned (.bool true) ∧ Below w.heap.size w w' := by
  by_cases hbig0 : 1048576 < bs.length
  · go_enter Tryz.func6, Tryz.ntmps6
    go_wp2
    go_ret
    exact ⟨rfl, Below.refl _ _⟩
  by_cases hbig1 : 1048576 < ms.length
  · go_enter Tryz.func6, Tryz.ntmps6
    go_wp2
    go_ret
    exact ⟨rfl, Below.refl _ _⟩
  · go_enter Tryz.func6, Tryz.ntmps6
    go_wp2_with fail
    refine (drawLaunch2_c A c bs w hA hb hl hcap).mono ?_
    rintro e w1 ⟨l, A1, c1, n, mem, Ar, cr, rfl, hl2, hm40, hn9, -, -, r1, rM, hB⟩
    go_wp2_with fail
    refine (drawLaunch2_c Am cm ms w1 ((hAm.below hB).more hB.size) hmb hml hmcap).mono ?_
    rintro e w2 ⟨l2, A2, c2, n2, mem2, Ar2, cr2, rfl, hl22, -, -, -, -, r2, -, b2⟩
    replace r1 := (r1.below b2).more b2.size
    replace rM := (rM.below b2).more b2.size
    replace hB := below_trans hB (Nat.le_refl _) b2
    clear b2
    clear hAm hA
    have hVl := launchM_len l n mem
    have HRC := Lib.hid (reason_cases l n mem)
    have HSA := Lib.hid (fun W a b => sLaunch_c A1 Ar c1 cr l n mem W a b (by omega) (by omega))
    unfold LaP at HSA
    have HC2 := Lib.hid (fun h : reasonOf l n mem = 0 => chain_two (a := l) (b := l2) (n := n) (m := mem) h)
    have HGL := Lib.hid (fun h : reasonOf l n mem = 0 => (launch_good h).2.2)
    go_wp2_with fail
    refine (iLaunch_c A1 Ar c1 cr l n mem w2 r1 rM (by omega) (by omega)).mono ?_
    rintro e w3 ⟨M1, d1, rfl, o1, b3⟩
    replace r1 := (r1.below b3).more b3.size
    replace rM := (rM.below b3).more b3.size
    replace r2 := (r2.below b3).more b3.size
    replace hB := below_trans hB (Nat.le_refl _) b3
    clear b3
    have v1 := OwI.rd o1
    clear o1
    generalize hVe : launchM l n mem = V at *
    generalize hre : reasonOf l n mem = rs at *
    go_wp2_with fail
    refine (HSA.out w3 r1 rM).mono ?_
    rintro e w4 ⟨M2, d2, rfl, o2, b4⟩
    replace r1 := (r1.below b4).more b4.size
    replace rM := (rM.below b4).more b4.size
    replace r2 := (r2.below b4).more b4.size
    replace v1 := (v1.below b4).more b4.size
    replace hB := below_trans hB (Nat.le_refl _) b4
    clear b4
    have v2 := OwI.rd o2
    clear HSA o2
    go_wp2_with fail
    refine (sameInts_c M1 M2 d1 d2 V w4 v1 v2 (by omega)).mono ?_
    rintro e w5 ⟨rfl, b5⟩
    replace r1 := (r1.below b5).more b5.size
    replace rM := (rM.below b5).more b5.size
    replace r2 := (r2.below b5).more b5.size
    replace v1 := (v1.below b5).more b5.size
    replace v2 := (v2.below b5).more b5.size
    replace hB := below_trans hB (Nat.le_refl _) b5
    clear b5
    clear v2
    rcases HRC.out with ⟨rfl, -⟩ | ⟨hok, hm1, hm32, hrs⟩
    · clear HRC HC2 hVe hre HGL
      go_wp2_with fail
      refine (alive_c _).mono ?_
      rintro e wz ⟨rfl, rfl⟩
      go_wp2
      go_ret
      exact ⟨rfl, hB⟩
    · rcases hrs with rfl | rfl | rfl
      · have hV32 : V.length ≤ 32 := by have := HGL.out rfl; omega
        clear HRC HGL hok hre hVe
        have HB := Lib.hid (fun W M d a b => iLaunch_c A2 M c2 d l2 n V W a b (by omega) (by omega))
        unfold LaP at HB
        have HCH := Lib.hid (fun W (hP : RdP W W.heap.size (some ⟨w5.heap.size, 0, none⟩) (fun i => if i = 0 then A1 else A2) (fun i => if i = 0 then c1 else c2) [l, l2]) b => iLaunchChain_c (some ⟨w5.heap.size, 0, none⟩) Ar 2 cr [l, l2] n mem W hP b (two_len (by omega) (by omega)) (by simp) (by omega))
        unfold ChP at HCH
        have HR2 := Lib.hid (reason_cases l2 n V)
        have HC2' := Lib.hid (HC2.out rfl)
        have hyl := launchM_len l2 n V
        clear HC2
        generalize chainM [l, l2] n mem = C at *
        generalize chainN [l, l2] n mem = N at *
        generalize hye : launchM l2 n V = y at *
        generalize hr2 : reasonOf l2 n V = rs2 at *
        have rP := RdP.two w5 r1 r2 (c1 := c1) (c2 := c2)
        have bP : Below w5.heap.size w5 (w5.alloc (.cells #[.slice A1 l.length c1, .slice A2 l2.length c2] 27)) := Below.alloc (Below.refl _ _) (Nat.le_refl _) _
        have hCl : C.length ≤ 1000000 := by rw [HC2'.out.1]; split <;> omega
        go_wp2_with fail
        replace r1 := (r1.below bP).more bP.size
        replace rM := (rM.below bP).more bP.size
        replace r2 := (r2.below bP).more bP.size
        replace v1 := (v1.below bP).more bP.size
        replace hB := below_trans hB (Nat.le_refl _) bP
        clear bP
        have rP2 := Lib.hid (rP.more (show _ ≤ (w5.alloc (.cells #[.slice A1 l.length c1, .slice A2 l2.length c2] 27)).heap.size by simp))
        refine (HCH.out (w5.alloc (.cells #[.slice A1 l.length c1, .slice A2 l2.length c2] 27)) rP2.out rM).mono ?_
        rintro e w6 ⟨MX, dX, rfl, oX, b6⟩
        replace r1 := (r1.below b6).more b6.size
        replace rM := (rM.below b6).more b6.size
        replace r2 := (r2.below b6).more b6.size
        replace v1 := (v1.below b6).more b6.size
        replace hB := below_trans hB (Nat.le_refl _) b6
        clear b6
        have vx := OwI.rd oX
        clear rP rP2 HCH oX
        go_wp2_with fail
        refine (HB.out w6 M1 d1 r2 v1).mono ?_
        rintro e w7 ⟨MY, dY, rfl, oY, b7⟩
        replace r1 := (r1.below b7).more b7.size
        replace rM := (rM.below b7).more b7.size
        replace r2 := (r2.below b7).more b7.size
        replace v1 := (v1.below b7).more b7.size
        replace vx := (vx.below b7).more b7.size
        replace hB := below_trans hB (Nat.le_refl _) b7
        clear b7
        have vy := OwI.rd oY
        clear HB oY
        obtain ⟨eC, eN⟩ := HC2'.out
        rcases HR2.out with ⟨rfl, -⟩ | ⟨-, -, -, hrs2⟩
        · skip
          obtain rfl : C = V := eC
          obtain rfl : N = 1 := eN
          clear HR2 HC2' hr2 hye
          go_wp2_with fail
          refine (sameInts_c MX M1 dX d1 C w7 vx v1 (by omega)).mono ?_
          rintro e w8 ⟨rfl, b8⟩
          replace r1 := (r1.below b8).more b8.size
          replace rM := (rM.below b8).more b8.size
          replace r2 := (r2.below b8).more b8.size
          replace v1 := (v1.below b8).more b8.size
          replace vx := (vx.below b8).more b8.size
          replace vy := (vy.below b8).more b8.size
          replace hB := below_trans hB (Nat.le_refl _) b8
          clear b8
          go_wp2
          go_ret
          exact ⟨rfl, hB⟩
        · rcases hrs2 with rfl | rfl | rfl
          · skip
            obtain rfl : C = y := eC
            obtain rfl : N = 2 := eN
            clear HR2 HC2' hr2 hye
            go_wp2_with fail
            refine (sameInts_c MX MY dX dY C w7 vx vy (by omega)).mono ?_
            rintro e w9 ⟨rfl, b9⟩
            replace r1 := (r1.below b9).more b9.size
            replace rM := (rM.below b9).more b9.size
            replace r2 := (r2.below b9).more b9.size
            replace v1 := (v1.below b9).more b9.size
            replace vx := (vx.below b9).more b9.size
            replace vy := (vy.below b9).more b9.size
            replace hB := below_trans hB (Nat.le_refl _) b9
            clear b9
            go_wp2
            go_ret
            exact ⟨rfl, hB⟩
          · skip
            obtain rfl : C = V := eC
            obtain rfl : N = 1 := eN
            clear HR2 HC2' hr2 hye
            go_wp2_with fail
            refine (sameInts_c MX M1 dX d1 C w7 vx v1 (by omega)).mono ?_
            rintro e w10 ⟨rfl, b10⟩
            replace r1 := (r1.below b10).more b10.size
            replace rM := (rM.below b10).more b10.size
            replace r2 := (r2.below b10).more b10.size
            replace v1 := (v1.below b10).more b10.size
            replace vx := (vx.below b10).more b10.size
            replace vy := (vy.below b10).more b10.size
            replace hB := below_trans hB (Nat.le_refl _) b10
            clear b10
            go_wp2
            go_ret
            exact ⟨rfl, hB⟩
          · skip
            obtain rfl : C = V := eC
            obtain rfl : N = 1 := eN
            clear HR2 HC2' hr2 hye
            go_wp2_with fail
            refine (sameInts_c MX M1 dX d1 C w7 vx v1 (by omega)).mono ?_
            rintro e w11 ⟨rfl, b11⟩
            replace r1 := (r1.below b11).more b11.size
            replace rM := (rM.below b11).more b11.size
            replace r2 := (r2.below b11).more b11.size
            replace v1 := (v1.below b11).more b11.size
            replace vx := (vx.below b11).more b11.size
            replace vy := (vy.below b11).more b11.size
            replace hB := below_trans hB (Nat.le_refl _) b11
            clear b11
            go_wp2
            go_ret
            exact ⟨rfl, hB⟩
      · clear HRC HC2 hVe hre hok HGL
        go_wp2_with fail
        refine (alive_c _).mono ?_
        rintro e wz ⟨rfl, rfl⟩
        go_wp2
        go_ret
        exact ⟨rfl, hB⟩
      · clear HRC HC2 hVe hre hok HGL
        go_wp2_with fail
        refine (alive_c _).mono ?_
        rintro e wz ⟨rfl, rfl⟩
        go_wp2
        go_ret
        exact ⟨rfl, hB⟩
end Go.Proofs.YtakeacndmnnbmaaGreat
