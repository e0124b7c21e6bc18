/- Accesses of programs that go alike: plain. -/
import Derived.Test.YtfgbbajkdpideaaAccs
import Derived.Test.YtfgbbajkdpideaaSem
namespace Go.Proofs.Ytfgbbajkdpideaa
open Go.RowKit
set_option linter.unusedVariables false
set_option linter.unusedSimpArgs false

theorem acc_alike {l l' : List Cd} (h : pv l = true) (h' : pv l' = true) {n : Int} {m : List Int} (hok : lockOk l n m = true) (k : SameB (goS l n.toNat m) (goS l' n.toNat m)) :
    lockOk l' n m = true ∧ accsOf l' n m = accsOf l n m ∧ splitB l' n.toNat (lockS l' n.toNat m).beats = splitB l n.toNat (lockS l n.toNat m).beats := by
  have h2 := hok
  simp only [lockOk, Bool.and_eq_true] at h2
  have hn := inR_iff.1 h2.2.1
  have hok' : lockOk l' n m = true := by simp only [lockOk, h', h2.2.1, h2.2.2, Bool.and_self]
  obtain ⟨k1, k2, k3, k4⟩ := alike_of h h' (n := n.toNat) (by omega) h2.2.2 k
  refine ⟨hok', ?_, k4.symm⟩
  simp only [accsOf, hok, hok', if_true, k3]
theorem acc_picked {l : List Cd} {n : Int} {m : List Int} (hok : lockOk l n m = true) : lockOk (picked l) n m = true ∧ accsOf (picked l) n m = accsOf l n m ∧ splitB (picked l) n.toNat (lockS (picked l) n.toNat m).beats = splitB l n.toNat (lockS l n.toNat m).beats := by
  have h2 := hok
  simp only [lockOk, Bool.and_eq_true] at h2
  have hn := inR_iff.1 h2.2.1
  exact acc_alike h2.1 (tree_picked h2.1).2.2 hok (picks_run h2.1 (by omega) m)
theorem acc_peeled {l : List Cd} {n : Int} {m : List Int} (hok : lockOk l n m = true) (t : Nat) : lockOk (peelN l t) n m = true ∧ accsOf (peelN l t) n m = accsOf l n m ∧ splitB (peelN l t) n.toNat (lockS (peelN l t) n.toNat m).beats = splitB l n.toNat (lockS l n.toNat m).beats := by
  have h2 := hok
  simp only [lockOk, Bool.and_eq_true] at h2
  have hn := inR_iff.1 h2.2.1
  have := peelN_run (n := n.toNat) (by omega) m t l h2.1
  exact acc_alike h2.1 this.1 hok this.2
theorem acc_ren {l : List Cd} {f : Int → Int} (hf : Names f) {n : Int} {m : List Int} (hok : lockOk l n m = true) : lockOk (l.map (ren f)) n m = true ∧ accsOf (l.map (ren f)) n m = accsOf l n m ∧ traceOf (l.map (ren f)) n m = traceOf l n m := by
  have h2 := hok
  simp only [lockOk, Bool.and_eq_true] at h2
  have hn := inR_iff.1 h2.2.1
  obtain ⟨hp, hr⟩ := names_run hf h2.1
  have R := hr (n := n.toNat) m (by omega)
  have hok' : lockOk (l.map (ren f)) n m = true := by simp only [lockOk, hp, h2.2.1, h2.2.2, Bool.and_self]
  exact ⟨hok', by simp only [accsOf, hok, hok', if_true, R.accs], by simp only [traceOf, hok, hok', if_true, R.beats]⟩
end Go.Proofs.Ytfgbbajkdpideaa
