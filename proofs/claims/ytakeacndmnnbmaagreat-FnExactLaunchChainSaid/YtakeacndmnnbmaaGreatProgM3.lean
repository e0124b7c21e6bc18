/- eqCodeSS -/
import Derived.Test.YtakeacndmnnbmaaGreatProgM
namespace Go.Proofs.YtakeacndmnnbmaaGreat
open Go.RowKit
set_option linter.unusedVariables false
set_option linter.unusedSimpArgs false

set_option maxRecDepth 100000 in
set_option maxHeartbeats 4000000 in
theorem eqCodeSS_c {As As2 : Nat → Option Addr} {cs cs2 : Nat → Nat} (P P2 : Option Addr) (pc pc2 : Nat) (ps : List (List Cd)) (w : World) (hP : RdP w w.heap.size P As cs ps) (hP2 : RdP w w.heap.size P2 As2 cs2 ps) (hl : ps.length ≤ 1048576) (hls : ∀ i, i < ps.length → (ps.getD i []).length ≤ 1048576) :
    Calls Tryz.prog 29 #[.slice P ps.length pc, .slice P2 ps.length pc2] w fun e w' => e = .returned (.bool true) ∧ Below w.heap.size w w' := by
  have HLS := Lib.hid hls
  clear hls
  go_enter Tryz.func29, Tryz.ntmps29
  go_wp2
  go_loopw [5] (fun kv wr => ∃ k : Nat, k ≤ ps.length ∧ kv = .int .i64 k ∧ Below w.heap.size w wr) (fun kv _ => ps.length - (intOf kv).toNat)
  case atStart => exact ⟨0, Nat.zero_le _, rfl, Below.refl _ _⟩
  case round =>
    obtain ⟨k, hk, rfl, hb⟩ := hrel
    by_cases hlt : k < ps.length
    · have hkI : (k : Int) < (ps.length : Int) := by omega
      have hPr := (hP.below hb).more hb.size
      have hPr2 := (hP2.below hb).more hb.size
      obtain ⟨qb, qo, rfl, hqB, p0⟩ := hPr.at_ hlt
      obtain ⟨qb2, qo2, rfl, hqB2, p2⟩ := hPr2.at_ hlt
      have hin := hPr.inn k hlt
      have hin2 := hPr2.inn k hlt
      have hpl := HLS.out k hlt
      generalize ps.getD k [] = p at *
      clear hPr hPr2
      go_wp2_with fail
      go_still_tail 8, (by kernel_rfl)
      go_wp2_with fail
      refine (eqCodeS_c (As k) (As2 k) (cs k) (cs2 k) p p wr.drew hin hin2 (by omega) (by omega)).mono ?_
      rintro e w2 ⟨rfl, hb2⟩
      rw [cdsEq_refl]
      have hb3 := below_trans hb.drew (Nat.le_refl _) hb2
      go_wp2
      go_roundw
      case rel => exact ⟨k + 1, by omega, by go_num, hb3⟩
      case measure => simp [intOf]; omega
    · go_wp2
      go_ret
      exact ⟨rfl, hb⟩
end Go.Proofs.YtakeacndmnnbmaaGreat
