/- markCodeSS -/
import Derived.Test.YtakeacndmnnbmaaGreatProgM2
namespace Go.Proofs.YtakeacndmnnbmaaGreat
open Go.RowKit
set_option linter.unusedVariables false
set_option linter.unusedSimpArgs false

/-- Blocks outside lo .. hi - 1 are as before. -/
structure Betw (lo hi : Nat) (w w' : World) : Prop where
  os : w'.os = w.os
  tape : w'.tape = w.tape
  output : w'.output = w.output
  size : w.heap.size ≤ w'.heap.size
  block : ∀ k, k < w.heap.size → k < lo ∨ hi ≤ k → w'.heap[k]? = w.heap[k]?
theorem Betw.refl (lo hi : Nat) (w : World) : Betw lo hi w w := ⟨rfl, rfl, rfl, Nat.le_refl _, fun _ _ _ => rfl⟩
theorem Betw.grown {lo hi : Nat} {w0 w w' : World} {row : Option Nat} (h : Betw lo hi w0 w) (hg : w.grownBy w' row) (hr : ∀ k, row = some k → lo ≤ k ∧ k < hi) : Betw lo hi w0 w' :=
  ⟨hg.os.trans h.os, hg.tape.trans h.tape, hg.output.trans h.output, Nat.le_trans h.size hg.size, fun k hk hne => (hg.block k (by have := h.size; omega) (fun e => by have := hr k e.symm; omega)).trans (h.block k hk hne)⟩
theorem Betw.below {lo hi B : Nat} {w w' : World} (h : Betw lo hi w w') (hB : B ≤ lo) (hw : B ≤ w.heap.size) : Below B w w' := ⟨h.os, h.tape, h.output, h.size, fun k hk => h.block k (by omega) (.inl (by omega))⟩
theorem Betw.or {lo hi base e size n c : Nat} {w w' : World} {A : Option Addr} {xs : List Value} (hb : Betw lo hi w w') (h : OR w base e size A n c xs) (hs : ∀ k, Value.ownBlock (.slice A n c) = some k → k < lo ∨ hi ≤ k) : OR w' base e size A n c xs := by
  refine ⟨h.1, ?_⟩
  rcases h.2 with hn | ⟨g, cap, cur, hv, hbg, hg, r⟩
  · exact .inl hn
  · exact .inr ⟨g, cap, cur, hv, hbg, by rw [hb.block g (lt_of_block hg) (hs g (by rw [hv]; rfl))]; exact hg, r⟩
theorem Betw.oi {lo hi base n c : Nat} {w w' : World} {A : Option Addr} {l : List Int} (hb : Betw lo hi w w') (h : OwI w base A n c l) (hs : 0 < n → ∀ k, Value.ownBlock (.slice A n c) = some k → k < lo ∨ hi ≤ k) : OwI w' base A n c l := by
  rcases h with h | h
  · exact .inl h
  · rcases Nat.eq_zero_or_pos n with e | e
    · subst e
      have hl := OI.len h
      exact .inl ⟨rfl, List.eq_nil_of_length_eq_zero hl⟩
    · exact .inr (hb.or h (hs e))

def MPRel (w : World) (lo hi pb : Nat) (As : Nat → Option Addr) (cs bs : Nat → Nat) (ps : List (List Cd)) (mv kv : Value) (wr : World) : Prop :=
  ∃ k : Nat, k ≤ ps.length ∧ kv = .int .i64 k ∧ mv = .int .i64 ((1 + 4 * lenSum (ps.take k) : Nat) : Int) ∧ Betw lo hi w wr ∧ OR wr lo 27 1 (some ⟨pb, 0, none⟩) ps.length ps.length (progV As cs ps) ∧ (∀ j, k ≤ j → j < ps.length → OC wr (bs j) (As j) (ps.getD j []).length (cs j) (ps.getD j []))

theorem bs_mono {bs : Nat → Nat} {n : Nat} (h : ∀ j, j < n → bs j ≤ bs (j + 1)) : ∀ j i, i ≤ j → j ≤ n → bs i ≤ bs j
  | 0, i, hi, _ => by obtain rfl : i = 0 := by omega
                      exact Nat.le_refl _
  | j + 1, i, hi, hj => by
    by_cases e : i = j + 1
    · rw [e]; exact Nat.le_refl _
    · have := bs_mono h j i (by omega) (by omega)
      have := h j (by omega)
      omega

set_option maxRecDepth 100000 in
set_option maxHeartbeats 4000000 in
theorem markCodeSS_c {w : World} {lo hi pb : Nat} {As : Nat → Option Addr} {cs bs : Nat → Nat} {ps : List (List Cd)} (h : OwP w lo hi pb As cs bs ps) (hl : ps.length + lenSum ps ≤ 1048576) :
    Calls Tryz.prog 30 #[.slice (some ⟨pb, 0, none⟩) ps.length ps.length, .int .i64 1] w fun e w' => e = .returned (.int .i64 ((1 + 4 * lenSum ps : Nat) : Int)) ∧ Betw lo hi w w' := by
  have HR := Lib.hid h.row
  have HT := Lib.hid h.top
  have HM := Lib.hid (bs_mono (bs := bs) (n := ps.length) (fun j hj => (h.row j hj).2.2.1))
  have hlo := (OR.base_le h.own).1
  have ho := h.own
  clear h
  go_enter Tryz.func30, Tryz.ntmps30
  go_wp2
  go_loopw [1, 5] (fun mv kv wr => MPRel w lo hi pb As cs bs ps mv kv wr) (fun _ kv _ => ps.length - (intOf kv).toNat)
  case atStart => exact ⟨0, Nat.zero_le _, rfl, by simp [lenSum], Betw.refl _ _ _, ho, fun j _ hj => (HR.out j hj).1⟩
  case round =>
    clear ho
    obtain ⟨k, hk, rfl, rfl, hbt, ho, hrows⟩ := hrel
    have HRW := Lib.hid hrows
    clear hrows
    have hsum := lenSum_le ps k hk
    by_cases hlt : k < ps.length
    · have hkI : (k : Int) < (ps.length : Int) := by omega
      have p0 := (OR.at0 ho).1 k _ (progV_get hlt)
      have hrow := HRW.out k (Nat.le_refl _) hlt
      obtain ⟨-, hpk, hbk, hqk⟩ := HR.out k hlt
      have hpl := lenSum_get ps hlt
      have HS := Lib.hid (lenSum_take ps hlt)
      generalize hse : lenSum (ps.take k) = sm at *
      have HO := Lib.hid ho
      have HQK := Lib.hid hqk
      clear ho hqk hse
      generalize hp : ps.getD k [] = p at *
      clear hp
      go_wp2_with fail
      refine (markCodeS_c (As k) p.length (cs k) (bs k) 57 ((1 + 4 * sm : Nat) : Int) (cdsCells p) wr hrow (by omega) (by omega) (by omega)).mono ?_
      rintro e w2 ⟨rfl, -, hg⟩
      have hbt2 := hbt.grown hg (fun q hq => by
        have h1 := (OR.block hrow q hq).1
        have h2 := HQK.out q hq
        have h3 := HT.out (k + 1) (by omega)
        omega)
      have ho2 : OR w2 lo 27 1 (some ⟨pb, 0, none⟩) ps.length ps.length (progV As cs ps) := OR.kept HO.out hg (.inr fun e => by
        have h1 := (OR.block hrow pb (by rw [← e]; rfl)).1
        omega)
      have hrows2 := Lib.hid (show ∀ j, k + 1 ≤ j → j < ps.length → OC w2 (bs j) (As j) (ps.getD j []).length (cs j) (ps.getD j []) from fun j hj hj2 => by
        have hj3 := HRW.out j (by omega) hj2
        refine OR.kept hj3 hg ?_
        cases hob : Value.ownBlock (.slice (As j) (ps.getD j []).length (cs j)) with
        | none => exact .inl rfl
        | some q =>
          exact .inr fun e => by
            have h1 := (OR.block hj3 q hob).1
            have h2 := HQK.out q e.symm
            have h3 := HM.out j (k + 1) hj (by omega)
            omega)
      have hmv : ((1 + 4 * sm : Nat) : Int) + 4 * (p.length : Int) = ((1 + 4 * lenSum (ps.take (k + 1)) : Nat) : Int) := by rw [HS.out]; push_cast; omega
      have HMV := Lib.hid hmv
      clear hmv hrow hg p0
      rw [HMV.out]
      have hsb := lenSum_le ps (k + 1) (by omega)
      generalize hs2 : lenSum (ps.take (k + 1)) = sm2 at *
      have HS2 := Lib.hid hs2
      clear hs2
      go_wp2
      go_roundw
      case rel => exact ⟨k + 1, by omega, by go_num, by rw [HS2.out]; first | rfl | (congr 1; go_num) | go_num, hbt2, ho2, hrows2.out⟩
      case measure => simp [intOf]; omega
    · obtain rfl : k = ps.length := by omega
      have HT2 := Lib.hid (show lenSum (ps.take ps.length) = lenSum ps by rw [List.take_length])
      rw [HT2.out]
      go_wp2
      go_ret
      exact ⟨rfl, hbt⟩
end Go.Proofs.YtakeacndmnnbmaaGreat
