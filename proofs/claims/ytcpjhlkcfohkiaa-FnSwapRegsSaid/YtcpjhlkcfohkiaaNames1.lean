/- Masks of lists, names of the registers of one instruction. -/
import Derived.Test.YtcpjhlkcfohkiaaSyn
import Derived.Test.YtcpjhlkcfohkiaaWrites
import Derived.Test.YtcpjhlkcfohkiaaMaskOf
namespace Go.Proofs.Ytcpjhlkcfohkiaa
open Go.RowKit
set_option linter.unusedVariables false
set_option linter.unusedSimpArgs false

theorem RdI.at1 {w : World} {B : Nat} {A : Option Addr} {xs : List Int} (h : RdI w B A xs) {k : Nat} (hk : k < xs.length) :
    ∃ b off, A = some ⟨b, off, none⟩ ∧ b < B ∧ ∀ j x, xs[j]? = some x → w.cell? ⟨b, off + j, none⟩ = some (.int .i64 x) := by
  obtain ⟨b, off, e, hb, hc⟩ := h.2 (by omega)
  exact ⟨b, off, e, hb, fun j x hx => hc j _ (by simp [hx])⟩

theorem nm_get {t : List Int} (ht : t.length = 4) {a : Nat} (ha : a ≤ 3) : t[a]? = some (nm t a) := by
  have : a < t.length := by omega
  simp [nm, List.getD_eq_getElem?_getD, List.getElem?_eq_getElem this]

set_option maxRecDepth 100000 in
set_option maxHeartbeats 4000000 in
theorem l22Map_c (x : Cd) (At : Option Addr) (ct : Nat) (t : List Int) (w : World) (hv : cvOk x = true) (ht : t.length = 4) (hT : RdI w w.heap.size At t) :
    Calls Try.prog 93 #[x.val, .slice At t.length ct] w fun e w' => e = .returned (ren (nm t) x).val ∧ Below w.heap.size w w' := by
  obtain ⟨bt, ot, rfl, hbt, hcell⟩ := hT.at1 (k := 0) (by omega)
  have ha := cvOk_a hv
  have hb := cvOk_b hv
  have hc := cvOk_c hv
  have hb2 := cvOk_b2 hv
  have ho := op14 hv
  obtain ⟨a, hae⟩ := Int.eq_ofNat_of_zero_le ha.1
  obtain ⟨b, hbe⟩ := Int.eq_ofNat_of_zero_le hb.1
  obtain ⟨c, hce⟩ := Int.eq_ofNat_of_zero_le hc.1
  obtain ⟨o, xa, xb, xc⟩ := x
  simp only at ha hb hc hb2 hae hbe hce ho
  subst hae hbe hce
  have hca := hcell a _ (nm_get ht (by omega))
  have hcc := hcell c _ (nm_get ht (by omega))
  have l3 : (3 : Int) < (t.length : Int) := by omega
  have l4 : a < t.length := by omega
  have l5 : c < t.length := by omega
  have HC := Lib.hid hcell
  have HT := Lib.hid ht
  clear hcell ht hv hT
  unfold Cd.val
  rcases ho with rfl | rfl | rfl | rfl | rfl | rfl | rfl | rfl | rfl | rfl | rfl | rfl | rfl | rfl
  all_goals
    try (have hb3 := (hb2 (by decide)).2; have l6 : b < t.length := by omega
         have hcb := HC.out b _ (nm_get HT.out (by omega)))
    clear hb2
    go_enter Try.func93, Try.ntmps93
    go_wp2
    exact bodyPost_ret (v := (ren (nm t) ⟨_, a, b, c⟩).val) (by simp [results, Try.results93, go_sem, Cd.val, ren, regsN]) rfl ⟨rfl, (by repeat (first | exact Below.refl _ _ | assumption | refine Below.alloc ?_ (by simp <;> omega) _ | refine Below.setCell ?_ (by simp <;> omega) _ | refine Below.drew ?_))⟩

end Go.Proofs.Ytcpjhlkcfohkiaa
