/- FnRegsUsed: the walk of the law. -/
import Derived.Test.YtcpjhlkcfohkiaaSame
import Derived.Test.YtcpjhlkcfohkiaaWrites
import Derived.Test.YtcpjhlkcfohkiaaILock7
import Derived.Test.YtcpjhlkcfohkiaaUsedLaw
namespace Go.Proofs.Ytcpjhlkcfohkiaa
open Go.RowKit
set_option linter.unusedVariables false
set_option linter.unusedSimpArgs false

theorem bit_tm0u (m k : Nat) : ((((m : Int) / 2 ^ k).tmod 2) == 0) = !m.testBit k := by
  have h := bit_tm m k
  have e : ((m : Int) / 2 ^ k) = ((m >>> k : Nat) : Int) := by
    rw [Nat.shiftRight_eq_div_pow]; simp
  rw [e, Int.tmod_eq_emod_of_nonneg (Int.natCast_nonneg _)] at h ⊢
  rw [← h]
  generalize m >>> k = q
  have : (q : Int) % 2 = 0 ∨ (q : Int) % 2 = 1 := by omega
  rcases this with h | h <;> rw [h] <;> rfl

theorem iLockRegs_c (A Am : Option Addr) (ca cm : Nat) (l : List Cd) (n : Int) (mem : List Int) (w : World) (hA : RdC w w.heap.size A l) (hM : RdI w w.heap.size Am mem) (hl : l.length ≤ 1000000000) (hml : mem.length ≤ 1000000000) (hok : lockOk l n mem = true) :
    Calls Try.prog 51 #[.slice A l.length ca, .int .i64 n, .slice Am mem.length cm] w fun e w' => ∃ (z : IW) (T : Option Addr) (tc : Nat) (U : Option Addr) (uc : Nat), e = .returned (.slice (some ⟨z.rg, 0, none⟩) z.n z.rc) ∧ z.n = n.toNat ∧ IR w' z T tc U uc (lockS l n.toNat mem) ∧ Below w.heap.size w w' := by
  have HOK := Lib.hid hok
  clear hok
  go_enter Try.func51, Try.ntmps51
  go_wp2_with fail
  refine (runLock_c A Am ca cm l n mem w hA hM hl hml).mono ?_
  rintro e w1 (⟨hok, hr⟩ | ⟨hok, rfl, hb1⟩)
  · obtain ⟨z, T, tc, U, uc, rfl, hzB, hzl, hzn, hS, hb1⟩ := hr
    obtain ⟨-, c1, -, -, -, -, -⟩ := hS.cells
    have HS := Lib.hid hS
    have HN := Lib.hid hzn
    clear hS hok hzn
    go_wp2
    go_ret
    exact ⟨z, T, tc, U, uc, rfl, HN.out, HS.out, hb1⟩
  · rw [HOK.out] at hok
    cases hok

theorem drawRegsUsed_c (A : Option Addr) (c : Nat) (bs : List Int) (w : World) (hA : Reads w w.heap.size 1 A bs.length (bs.map (.int .u8))) (hb : ∀ x ∈ bs, 0 ≤ x ∧ x ≤ 255) (hl : bs.length ≤ 9223372036854775807) (hcap : bs.length ≤ c) :
    Calls Try.prog 63 #[.slice A bs.length c] w (DrawnP w) := by
  go_enter Try.func63, Try.ntmps63
  go_wp2_with fail
  refine (l20Open_c A c bs w hA hb hl hcap).mono ?_
  rintro e w1 ⟨rfl, hR, hB, hs⟩
  go_wp2_with fail
  refine (l20Program_c hR (by omega) 12 (by omega)).mono ?_
  rintro e w2 ⟨A2, n2, c2, rfl, hn2, D2⟩
  go_wp2
  go_ret
  exact DrawnP.of D2 hB (Nat.le_refl _) hn2

set_option maxRecDepth 100000 in
set_option maxHeartbeats 4000000 in
theorem fnRegsUsed_c (w : World) (A : Option Addr) (c : Nat) (bs : List Int) (hA : Reads w w.heap.size 1 A bs.length (bs.map (.int .u8))) (hl : bs.length ≤ 9223372036854775807) (hb : ∀ x ∈ bs, 0 ≤ x ∧ x ≤ 255) (hcap : bs.length ≤ c) :
    Calls Try.prog 14 #[.slice A bs.length c] w fun e w' => e = .returned (.bool true) ∧ Below w.heap.size w w' := by
  by_cases hbig : 1048576 < bs.length
  · go_enter Try.func14, Try.ntmps14
    go_wp2
    go_ret
    exact ⟨rfl, Below.refl _ _⟩
  · go_enter Try.func14, Try.ntmps14
    go_wp2_with fail
    refine (drawRegsUsed_c A c bs w hA hb hl hcap).mono ?_
    rintro e w1 ⟨l, A1, c1, rfl, hl2, o1, hB⟩
    have r1 := OC.rd o1
    clear o1
    go_wp2_with fail
    refine (iRegsUsed_c A1 c1 l w1 r1 (by omega)).mono ?_
    rintro e w2 ⟨rfl, b2⟩
    replace r1 := (r1.below b2).more b2.size
    replace hB := below_trans hB (Nat.le_refl _) b2
    go_wp2_with fail
    refine (sRegsUsed_c A1 c1 l w2 r1 (by omega)).mono ?_
    rintro e w3 ⟨rfl, b3⟩
    replace r1 := (r1.below b3).more b3.size
    replace hB := below_trans hB (Nat.le_refl _) b3
    clear b2 b3
    cases hp : pv l with
    | false =>
      have hs : regsUsedI l = -1 := by simp [regsUsedI, hp]
      rw [hs]
      go_wp2_with fail
      refine (alive_c _).mono ?_
      rintro e w4 ⟨rfl, rfl⟩
      go_wp2
      go_ret
      exact ⟨rfl, hB⟩
    | true =>
      have hs : regsUsedI l = ((usedOf l : Nat) : Int) := by simp [regsUsedI, hp]
      have hu := usedOf_lt l
      have HU := Lib.hid (fun q (h : (usedOf l).testBit q = false) k => used_law hp h 3 [5, 6, 7] k)
      have hok := Lib.hid (show lockOk l 3 [5, 6, 7] = true by simp [lockOk, hp]; decide)
      rw [hs]
      clear hs hp
      generalize usedOf l = u at *
      have hne : ((u : Int) != (u : Int)) = false := by simp
      go_wp2_with fail
      have rM : RdI (w3.alloc (.cells #[.int .i64 5, .int .i64 6, .int .i64 7] 3)) (w3.alloc (.cells #[.int .i64 5, .int .i64 6, .int .i64 7] 3)).heap.size (some ⟨w3.heap.size, 0, none⟩) [5, 6, 7] :=
        (OR.lit w3 w3.heap.size 3 1 3 #[.int .i64 5, .int .i64 6, .int .i64 7] (Nat.le_refl _) (by omega) rfl).reads
      have b4 : Below w3.heap.size w3 (w3.alloc (.cells #[.int .i64 5, .int .i64 6, .int .i64 7] 3)) := (by repeat (first | exact Below.refl _ _ | assumption | refine Below.alloc ?_ (by simp <;> omega) _ | refine Below.setCell ?_ (by simp <;> omega) _ | refine Below.drew ?_))
      replace r1 := (r1.below b4).more b4.size
      replace hB := below_trans hB (Nat.le_refl _) b4
      refine (iLockRegs_c A1 _ c1 3 l 3 [5, 6, 7] _ r1 rM (by omega) (by decide) hok.out).mono ?_
      rintro e w5 ⟨z, T, tc, U, uc, rfl, hzn, hI, b5⟩
      replace hB := below_trans hB (Nat.le_refl _) b5
      have hz3 : z.n = 3 := hzn
      rw [hz3]
      clear rM b4 b5 r1 hzn
      have hI2 : IR w5 z T tc U uc (lockS l 3 [5, 6, 7]) := hI
      have HI := Lib.hid hI2
      clear hI hI2
      go_wp2
      go_loopw [6] (fun kv wr => ∃ k : Nat, k ≤ 3 ∧ kv = .int .i64 k ∧ w5 = wr) (fun kv _ => 3 - (intOf kv).toNat)
      case atStart => exact ⟨0, Nat.zero_le _, rfl, rfl⟩
      case round =>
        obtain ⟨k, hk, rfl, rfl⟩ := hrel
        by_cases hlt : k < 3
        · have hkI : (k : Int) < 3 := by omega
          have hrow := HI.out.rowAt (k := k) (by omega)
          have hin := HI.out.inn k (by omega)
          have hl4 := OI.len hin
          have HC := Lib.hid (fun r x hr => (OI.at0 hin).1 r x hr)
          have HZ := Lib.hid (fun r (h : u.testBit r = false) => HU.out r h k)
          clear hin
          generalize (lockS l 3 [5, 6, 7]).regs.getD k [] = row at *
          go_wp2
          go_loopw [7] (fun rv wr => ∃ r : Nat, r ≤ 4 ∧ rv = .int .i64 r ∧ w5 = wr) (fun rv _ => 4 - (intOf rv).toNat)
          case atStart => exact ⟨0, Nat.zero_le _, rfl, rfl⟩
          case round =>
            obtain ⟨r, hr, rfl, rfl⟩ := hrel
            by_cases hlr : r < 4
            · have hrI : (r : Int) < 4 := by omega
              have hc := HC.out r _ (List.getElem?_eq_getElem (show r < row.length by omega))
              have hbt := bit_tm0u u r
              cases ht : u.testBit r with
              | true =>
                rw [ht] at hbt
                clear ht
                go_wp2
                go_roundw
                case rel => exact ⟨r + 1, by omega, by go_num, trivial⟩
                case measure => (simp [intOf] <;> omega)
              | false =>
                have hz := HZ.out r ht
                have hx : row[r]'(show r < row.length by omega) = 0 := by
                  unfold rg at hz
                  rw [List.getD_eq_getElem?_getD, Int.toNat_natCast, List.getElem?_eq_getElem (by omega)] at hz
                  exact hz
                rw [hx] at hc
                rw [ht] at hbt
                clear ht hz hx
                go_wp2
                go_roundw
                case rel => exact ⟨r + 1, by omega, by go_num, trivial⟩
                case measure => (simp [intOf] <;> omega)
            · obtain rfl : r = 4 := by omega
              go_wp2
              go_roundw
              case rel => exact ⟨k + 1, by omega, by go_num, trivial⟩
              case measure => (simp [intOf] <;> omega)
        · obtain rfl : k = 3 := by omega
          have hu15 : decide ((u : Int) ≤ 15) = true := decide_eq_true (by omega)
          go_wp2
          go_ret
          exact ⟨by first | rfl | (simp; omega), hB⟩
end Go.Proofs.Ytcpjhlkcfohkiaa
