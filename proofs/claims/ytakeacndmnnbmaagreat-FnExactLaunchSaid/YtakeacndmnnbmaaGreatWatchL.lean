/- The reference's LockAccesses. -/
import Derived.Test.YtakeacndmnnbmaaGreatWatch
import Derived.Test.YtakeacndmnnbmaaGreatAccs
import Derived.Test.YtakeacndmnnbmaaGreatLock6
namespace Go.Proofs.YtakeacndmnnbmaaGreat
open Go.RowKit
set_option linter.unusedVariables false
set_option linter.unusedSimpArgs false

theorem SR.down {w : World} {z : SW} {T : Option Addr} {tc : Nat} {sp : Bool} {s : LS} (h : SR w z T tc sp s) {b : Nat} (hb : b ≤ z.B) (hl : RdC w b z.A z.l) : SR w { z with B := b } T tc sp s :=
  ⟨h.blk, Nat.le_trans hb h.gB, OR.mono h.out hb, fun k hk => OR.mono (h.inn k hk) hb, OR.mono h.mem hb, OR.mono h.trc hb, h.inj, h.mne, hl⟩

def AccPost (w : World) (s : LS) (e : Ending) (w' : World) : Prop :=
  ∃ (U : Option Addr) (uc : Nat), e = .returned (.slice U s.accs.length uc) ∧ RdQ w' w'.heap.size U s.accs ∧ Below w.heap.size w w'

set_option maxRecDepth 100000 in
set_option maxHeartbeats 8000000 in
theorem l9List_c (A Am : Option Addr) (ca cm : Nat) (l : List Cd) (n : Nat) (mem : List Int) (b : Blk) (w : World) (hA : RdC w w.heap.size A l) (hM : RdI w w.heap.size Am mem) (hb : b.ok 3) (hl : l = b.flat) (hv : ∀ x ∈ l, cvOk x = true) (h40 : l.length ≤ 40)
    (hn1 : 1 ≤ n) (hn8 : n ≤ 8) (hm : wordsOk mem) (hm1 : 1 ≤ mem.length) (hm2 : mem.length ≤ 32) :
    Calls Tryz.prog 104 #[.slice A l.length ca, .int .i64 n, .slice Am mem.length cm] w (AccPost w (runT b n mem)) := by
  have HL := Lib.hid hl
  have HV := Lib.hid hv
  clear hl hv
  obtain ⟨mb0, mo0, y0, rfl, _, _, _⟩ := hM.at_ (k := 0) (by omega)
  have hmk : ∀ w : World, (Instr.makeSlice 23 (.int .i64 4) (.int .i64 4)).run Tryz.prog w = .ok (.slice (some ⟨w.heap.size, 0, none⟩) 4 4) (w.alloc (.cells (zeroRow (.int .i64 0) 4) 3)) := make_int 4 (by omega)
  go_enter Tryz.func104, Tryz.ntmps104
  go_upto_region 2 with (fail)
  have hE0 : OR (w.alloc (.cells #[] 118)) w.heap.size 118 4 (some ⟨w.heap.size, 0, none⟩) 0 0 [] := OR.lit w w.heap.size 118 4 0 #[] (Nat.le_refl _) (by omega) rfl
  have hE1 := OR.alloc hE0 (.cells #[.slice (some ⟨w.heap.size, 0, none⟩) 0 0] 89)
  have hob := heap_alloc_new (w.alloc (.cells #[] 118)) (.cells #[.slice (some ⟨w.heap.size, 0, none⟩) 0 0] 89)
  have hbA : Below w.heap.size w ((w.alloc (.cells #[] 118)).alloc (.cells #[.slice (some ⟨w.heap.size, 0, none⟩) 0 0] 89)) := (by repeat (first | exact Below.refl _ _ | assumption | refine Below.alloc ?_ (by simp <;> omega) _ | refine Below.setCell ?_ (by simp <;> omega) _ | refine Below.drew ?_))
  simp only [World.size_alloc] at hob
  have hsA : ((w.alloc (.cells #[] 118)).alloc (.cells #[.slice (some ⟨w.heap.size, 0, none⟩) 0 0] 89)).heap.size = w.heap.size + 2 := by simp
  generalize (w.alloc (.cells #[] 118)).alloc (.cells #[.slice (some ⟨w.heap.size, 0, none⟩) 0 0] 89) = wA at *
  clear hE0
  obtain ⟨ob, hobe⟩ : ∃ o, w.heap.size + 1 = o := ⟨_, rfl⟩
  rw [hobe] at hob ⊢
  have hobl : ob < wA.heap.size := by omega
  have hob0 : w.heap.size ≤ ob := by omega
  clear hsA hobe
  have HE1 := Lib.hid hE1
  have HOB := Lib.hid hob
  clear hE1 hob
  have hAA := (hA.below hbA).more hbA.size
  have hMA := (hM.below hbA).more hbA.size
  have HA0 := Lib.hid (hA.below hbA)
  have hM1 := Lib.hid (hMA.below ((Below.refl wA.heap.size wA).alloc (Nat.le_refl _) (.cells #[] 3)))
  have ho0 := Lib.hid (OI.empty_ wA wA.heap.size (Nat.le_refl _))
  clear hA hM hMA
  go_wp2_with (at_builtin; refine app_rd 23 3 _ 1 8 Tryz.underlying23 infoInt rfl (by decide) (by decide) rfl _ _ rfl wA.heap.size _ 0 0 _ ho0.out rfl wA.heap.size ⟨mb0, mo0, none⟩ mem.length cm _ rfl hM1.out (ints_one mem) ?hn ?hb ?_)
  case hn => omega
  case hb => simp
  intro A' c' w1 ho1 hg1
  have hb1 := below_gr ((Below.refl wA.heap.size wA).alloc (Nat.le_refl _) (.cells #[] 3)) (by simp) ho0.out (Nat.le_refl _) hg1
  replace ho1 : OI w1 wA.heap.size A' mem.length c' mem := by unfold OI; simpa using ho1
  obtain ⟨mb, rfl, -, hmbl, -⟩ := OR.at_ ho1 (by omega)
  clear hM1 ho0 hg1
  go_wp2_with fail
  have hAR : AR (w1.alloc (.cells #[.slice A l.length ca, .int .i64 n, .slice none 0 0, .slice (some ⟨mb, 0, none⟩) mem.length c', .slice none 0 0, .bool false, .slice none 0 0, .bool false] 78)) wA.heap.size w1.heap.size A ca l n mb c' mem none 0 none 0 (fun _ => 0) 0 := by
    have hs1 := hb1.size
    have hX := Ext.alloc w1 (.cells #[.slice A l.length ca, .int .i64 n, .slice none 0 0, .slice (some ⟨mb, 0, none⟩) mem.length c', .slice none 0 0, .bool false, .slice none 0 0, .bool false] 78)
    refine ⟨?_, hs1, OR.nil_ _ _ _ _, fun j hj => by omega, OR.ext ho1 hX, OR.nil_ _ _ _ _, fun i j hi => by omega, fun j hj => by omega, ?_⟩
    · exact heap_alloc_new w1 (.cells #[.slice A l.length ca, .int .i64 n, .slice none 0 0, .slice (some ⟨mb, 0, none⟩) mem.length c', .slice none 0 0, .bool false, .slice none 0 0, .bool false] 78)
    · exact (hAA.below hb1).below ((hX.below).mono hs1)
  have hbL : Below wA.heap.size wA (w1.alloc (.cells #[.slice A l.length ca, .int .i64 n, .slice none 0 0, .slice (some ⟨mb, 0, none⟩) mem.length c', .slice none 0 0, .bool false, .slice none 0 0, .bool false] 78)) := hb1.alloc hb1.size _
  generalize w1.alloc (.cells #[.slice A l.length ca, .int .i64 n, .slice none 0 0, .slice (some ⟨mb, 0, none⟩) mem.length c', .slice none 0 0, .bool false, .slice none 0 0, .bool false] 78) = w2 at *
  generalize w1.heap.size = g at *
  clear ho1 hb1 hmbl
  clear w1
  go_loopw [9] (fun kv wr => ALRel wA g A ca l n mb c' mem none 0 kv wr) (fun kv _ => n - (intOf kv).toNat)
  case atStart => exact ⟨0, none, 0, _, Nat.zero_le _, rfl, hAR, hbL⟩
  case round =>
    clear hAR hbL
    obtain ⟨k, R, rc, rk, hk, rfl, hR, hb2⟩ := hrel
    have hBr := hb2.size
    have hblk := hR.blk
    have c2 : wr.cell? ⟨g, 2, none⟩ = some (.slice R k rc) := cell_of_heap hblk 2
    have HR := Lib.hid hR
    by_cases hlt : k < n
    · obtain ⟨i0, hi0, hz0, hz1, hz2⟩ := info_parts infoRows
      have hOR := Lib.hid (OR.drew (OR.alloc (OR.alloc hR.out (.cells (zeroRow (.int .i64 0) 4) 3)) (.cells #[.slice (some ⟨wr.heap.size, 0, none⟩) 4 4] 23)))
      have hgl : g < wr.heap.size := lt_of_block hblk
      have hne : Value.ownBlock (.slice R k rc) ≠ some g := own_ne hR.out hblk (by decide)
      have hnew := heap_alloc_new (wr.alloc (.cells (zeroRow (.int .i64 0) 4) 3)) (.cells #[.slice (some ⟨wr.heap.size, 0, none⟩) 4 4] 23)
      simp only [World.size_alloc] at hnew
      have f2 := free_of_heap hblk 2
      have h1 := (Below.heap_alloc wr (.cells (zeroRow (.int .i64 0) 4) 3) g hgl).trans hblk
      have h2 := (Below.heap_alloc (wr.alloc (.cells (zeroRow (.int .i64 0) 4) 3)) (.cells #[.slice (some ⟨wr.heap.size, 0, none⟩) 4 4] 23) g (by simp; omega)).trans h1
      clear hR
      go_wp2_with fail
      go_region_law ((refine step_append_lies _ (by rfl) _ _ _ (by rfl) wA.heap.size 23 i0 _ 1 24 Tryz.underlying75 hi0 hz0 hz1 hz2 rfl (by omega) (.slice R k rc) k _ (by rfl) hOR.out ⟨wr.heap.size + 1, 0, none⟩ 1 1 [.slice (some ⟨wr.heap.size, 0, none⟩) 4 4] (by rfl) (by rfl) (World.news_of_block (cs := #[.slice (some ⟨wr.heap.size, 0, none⟩) 4 4]) (t := 23) (fr := (0, 0)) hnew) (by simp [Value.oneCell']) (by omega) (by unfold maxLen; omega) (by omega) (by simp; omega) (wr.heap.size + 2) (by simp) ?_; intro gg cap w3 ho3 hgrow hat hlt3; have f3 := free_of_heap ((hgrow.block g (by simp; omega) (fun e => hne e.symm)).trans h2) 2; have c3 := cell_of_heap ((hgrow.block g (by simp; omega) (fun e => hne e.symm)).trans h2) 2))
      all_goals
        have hst := HR.out.step hBr (cs := zeroRow (.int .i64 0) 4) ((toList_madeCells_one _ _).trans rfl) (grown_drew2 hgrow) ho3
        clear c2 hblk h1 h2 f2 hnew hOR ho3 hgrow c3 f3 hat
        obtain ⟨hR', hbS⟩ := hst
        have hb3 := hb2.trans hbS
        go_wp2
        refine ⟨⟨k + 1, _, cap, _, by omega, by go_num, hR', hb3⟩, ?_⟩
        simp [intOf]; omega
    · obtain rfl : k = n := by omega
      obtain ⟨rg, rfl, -, -, -⟩ := OR.at_ hR.out (by omega)
      have hSR := hR.done
      have hmm : 2 ^ k - 1 < 2 ^ k := by have : 0 < 2 ^ k := Nat.pow_pos (by decide); omega
      have hwt := wt_le b 3 hb
      rw [← HL.out] at hwt
      have hall : maskAllI (k : Int) = ((2 ^ k - 1 : Nat) : Int) := by
        have : k = 1 ∨ k = 2 ∨ k = 3 ∨ k = 4 ∨ k = 5 ∨ k = 6 ∨ k = 7 ∨ k = 8 := by omega
        rcases this with rfl | rfl | rfl | rfl | rfl | rfl | rfl | rfl <;> decide
      have HALL := Lib.hid hall
      have hobr : wr.heap[ob]? = some (.cells #[.slice (some ⟨w.heap.size, 0, none⟩) 0 0] 89 (0, 0)) := (hb2.block ob (by omega)).trans HOB.out
      have hE0r : OR wr w.heap.size 118 4 (some ⟨w.heap.size, 0, none⟩) 0 0 [] := OR.below HE1.out hb2 (Nat.le_refl _)
      have hXp := Ext.alloc wr (.cells #[.int .i64 0] 3)
      have hWR : WR (wr.alloc (.cells #[.int .i64 0] 3)) ⟨w.heap.size, g, A, ca, l, k, rg, rc, rk, mb, c'⟩ ob wr.heap.size (some ⟨w.heap.size, 0, none⟩) 0 (LS.start k mem) := by
        have hS2 := (hSR.ext hXp hBr).down (b := w.heap.size) (show w.heap.size ≤ wA.heap.size by omega) (by
          exact (HA0.out.below (hb2.mono (by omega))).below ((hXp.below).mono (by omega)))
        refine ⟨hS2, hXp.heap_ hobr, heap_alloc_new wr (.cells #[.int .i64 0] 3), OR.ext hE0r hXp, hob0, show w.heap.size ≤ wr.heap.size by omega, fun j hj => ?_, ?_⟩
        · have := (OR.base_le (hR.inn j hj)).2
          intro e
          have e' : wr.heap.size = rk j := e
          omega
        · have := (OR.base_le hR.mem).2
          intro e
          have e' : wr.heap.size = mb := e
          omega
      have hbp : Below w.heap.size w (wr.alloc (.cells #[.int .i64 0] 3)) := (below_trans hbA (by omega) hb2).alloc (by omega) _
      have hBp : w.heap.size ≤ (wr.alloc (.cells #[.int .i64 0] 3)).heap.size := hbp.size
      clear hall c2 hblk hR hSR hobr hE0r hXp HR
      go_wp2_with fail
      refine (sMaskAll_c k _).mono ?_
      rintro e w5 ⟨rfl, rfl⟩
      go_wp2_with fail
      refine (watch_c b.flat.length b 3 (Nat.le_refl _) hb _ ⟨w.heap.size, g, A, ca, l, k, rg, rc, rk, mb, c'⟩ ob wr.heap.size _ 0 (LS.start k mem) 0 (2 ^ k - 1) l.length 0 l.length _ [] hWR (SOk.start hn8 hm hm1 hm2) (Bd.start _ _) hmm (by simp [HL.out]) (by simp [HL.out]) (show l.length ≤ 1000000000 by omega) (Nat.le_refl _) hBp (by simp [LS.start]; omega) HV.out rfl rfl HALL.out).mono ?_
      rintro e w6 ⟨rfl, U, uc, hS', hst'⟩
      obtain ⟨-, -, -, -, c4, -⟩ := hS'.cells
      have HQ := Lib.hid (OR.reads hS'.acc)
      have hbe := hbp.trans hst'.bel
      clear hWR hS'
      have e0 : b.run 0 (2 ^ k - 1) (LS.start k mem) = runT b k mem := rfl
      rw [e0] at c4 HQ
      generalize runT b k mem = S at *
      go_wp2
      go_ret
      exact ⟨U, uc, rfl, HQ.out, hbe⟩

set_option maxRecDepth 100000 in
set_option maxHeartbeats 4000000 in
theorem sLockAccesses_c (A Am : Option Addr) (ca cm : Nat) (l : List Cd) (n : Int) (m : List Int) (w : World) (hA : RdC w w.heap.size A l) (hM : RdI w w.heap.size Am m) (hl : l.length ≤ 1000000000) (hml : m.length ≤ 1000000000) :
    Calls Tryz.prog 83 #[.slice A l.length ca, .int .i64 n, .slice Am m.length cm] w fun e w' => ∃ (U : Option Addr) (uc : Nat), e = .returned (.slice U (accsOf l n m).length uc) ∧ RdQ w' w'.heap.size U (accsOf l n m) ∧ Below w.heap.size w w' := by
  cases hok : lockOk l n m with
  | false =>
    have HT := Lib.hid (show accsOf l n m = [] by simp [accsOf, hok])
    go_enter Tryz.func83, Tryz.ntmps83
    go_wp2_with fail
    refine (sl8Ok_c A Am ca cm l n m w hA hM hl hml).mono ?_
    rintro e w1 ⟨rfl, hb1⟩
    rw [hok]
    go_wp2
    go_ret
    rw [HT.out]
    exact ⟨_, 0, rfl, OR.reads (OR.lit w1 w.heap.size 118 4 0 #[] hb1.size (by omega) rfl), hb1.alloc hb1.size _⟩
  | true =>
    have h' := hok
    simp only [lockOk, Bool.and_eq_true] at h'
    obtain ⟨hp, hin, hmem⟩ := h'
    obtain ⟨k, rfl⟩ : ∃ k : Nat, n = (k : Int) := ⟨n.toNat, by have := (inR_iff.1 hin).1; omega⟩
    have hk1 : 1 ≤ k := by have := (inR_iff.1 hin).1; omega
    have hk8 : k ≤ 8 := by have := (inR_iff.1 hin).2; omega
    have HT := Lib.hid (show accsOf l k m = (runT (treeOf l) k m).accs by simp [accsOf, hok, lockS])
    obtain ⟨hm0, hm1, hm2⟩ := memOk_iff.1 hmem
    obtain ⟨ht1, ht2⟩ := treeOf_spec hp
    have h40 := (pv_iff.1 hp).1
    have HT1 := Lib.hid ht1
    have HT2 := Lib.hid ht2
    clear ht1 ht2
    go_enter Tryz.func83, Tryz.ntmps83
    go_wp2_with fail
    refine (sl8Ok_c A Am ca cm l k m w hA hM hl hml).mono ?_
    rintro e w1 ⟨rfl, hb1⟩
    rw [hok]
    have HH := Lib.hid (And.intro hok (And.intro hp (And.intro hin hmem)))
    clear hok hp hin hmem
    go_wp2_with fail
    refine (l9List_c A Am ca cm l k m (treeOf l) w1 ((hA.below hb1).more hb1.size) ((hM.below hb1).more hb1.size) HT1.out HT2.out.symm (pv_all HH.out.2.1) h40 hk1 hk8 hm0 hm1 hm2).mono ?_
    rintro e w2 ⟨U, uc, rfl, HQ, hb2⟩
    have hb3 := below_trans hb1 (Nat.le_refl _) hb2
    generalize (runT (treeOf l) k m).accs = qs at *
    have HQ := Lib.hid HQ
    go_wp2
    go_ret
    rw [HT.out]
    exact ⟨U, uc, rfl, HQ.out, hb3⟩
end Go.Proofs.YtakeacndmnnbmaaGreat
