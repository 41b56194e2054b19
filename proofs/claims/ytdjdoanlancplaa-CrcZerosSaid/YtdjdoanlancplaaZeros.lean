/- CrcZeros: the walk of the law. -/
import Derived.Test.YtdjdoanlancplaaSeals
import Derived.Test.YtdjdoanlancplaaTimes
namespace Go.Proofs.Ytdjdoanlancplaa
open Go.RowKit

theorem word_of {a : Int} (h : (Lit.int .u32 a).wf = true) : ∃ A : W32, IsW a A := by
  have h1 : IntKind.u32.min = 0 := rfl
  have h2 : IntKind.u32.max = 4294967295 := rfl
  simp only [Lit.wf, Bool.and_eq_true, decide_eq_true_eq] at h
  refine ⟨BitVec.ofNat 32 a.toNat, ?_⟩
  unfold IsW
  rw [BitVec.toNat_ofNat, Nat.mod_eq_of_lt (by omega)]
  omega

namespace Zeros

set_option maxHeartbeats 2000000 in
theorem walk (a : Int) (ha : (Lit.int .u32 a).wf = true) (b : Int) (hb : (Lit.int .u32 b).wf = true) (q0 q1 : Int) (_ : ∀ z ∈ [q0, q1], (Lit.int .i64 z).wf = true) (w : World) :
    Calls Try.prog 7 #[.int .u32 a, .int .u32 b, .agg #[.int .i64 q0, .int .i64 q1]] w fun e w' => e = .returned (.bool true) ∧ Below w.heap.size w w' := by
  obtain ⟨A, hA⟩ := word_of ha
  obtain ⟨B, hB⟩ := word_of hb
  have HA := Lib.hid hA
  have HB := Lib.hid hB
  have hX := hA.xor hB
  clear ha hb hA hB
  obtain ⟨r, hr⟩ : ∃ r, q0.tmod 3001 = r := ⟨_, rfl⟩
  have hr1 : -3001 < r ∧ r < 3001 := by rw [← hr]; have := Int.tmod_lt_of_pos q0 (show (0 : Int) < 3001 by omega); have := Int.lt_tmod_of_pos q0 (show (0 : Int) < 3001 by omega); omega
  obtain ⟨s, hs⟩ : ∃ s, q1.tmod 3001 = s := ⟨_, rfl⟩
  have hs1 : -3001 < s ∧ s < 3001 := by rw [← hs]; have := Int.tmod_lt_of_pos q1 (show (0 : Int) < 3001 by omega); have := Int.lt_tmod_of_pos q1 (show (0 : Int) < 3001 by omega); omega
  go_enter Try.func7, Try.ntmps7
  go_wp2_with fail
  refine (awake_any _).mono ?_
  rintro e w1 ⟨rfl, hb1⟩
  have c0 := (hb1.cell (p := ⟨w.heap.size, 0, none⟩) (by simp)).trans (by simp : _ = some (Value.int .i64 q0))
  have c1 := (hb1.cell (p := ⟨w.heap.size, 1, none⟩) (by simp)).trans (by simp : _ = some (Value.int .i64 q1))
  have hfin : Below w.heap.size w w1 := below_seq ((Below.refl _ _).alloc (Nat.le_refl _) _) hb1
  clear hb1
  go_wp2_with fail
  rw [show (r + 3001) % 3001 = r % 3001 from by omega, show (s + 3001) % 3001 = s % 3001 from by omega]
  have hM : 0 ≤ r % 3001 ∧ r % 3001 ≤ 3000 := by omega
  have hN : 0 ≤ s % 3001 ∧ s % 3001 ≤ 3000 := by omega
  clear c0 c1 hr hs hr1 hs1
  generalize r % 3001 = m at hM ⊢
  generalize s % 3001 = n at hN ⊢
  have e1 : join (join A 0#32 m.toNat) B n.toNat = join A B (m + n).toNat := by rw [join_join]; congr 1; omega
  have e2 : ∀ k : Int, k ≤ 0 → wi (join A B k.toNat) = bits .xor .u32 a b := by
    intro k hk
    rw [show k.toNat = 0 from by omega, join_zero, hX.eq]
  have E1 := Lib.hid e1
  have E2 := Lib.hid e2
  clear e1 e2 hX
  refine (join_any A 0#32 _ _ _ HA IsW.lit0 (by omega) _).mono ?_
  rintro e w2 ⟨rfl, rfl⟩
  have hj1 : Hid (IsW (wi (join A 0#32 m.toNat)) (join A 0#32 m.toNat)) := wi_is _
  generalize wi (join A 0#32 m.toNat) = j1 at hj1 ⊢
  go_wp2_with fail
  refine (join_any _ B _ _ _ hj1 HB (by omega) _).mono ?_
  rintro e w3 ⟨rfl, rfl⟩
  rw [E1.out]
  go_wp2_with fail
  refine (join_any A B _ _ _ HA HB (by omega) _).mono ?_
  rintro e w4 ⟨rfl, rfl⟩
  generalize wi (join A B (m + n).toNat) = j3
  go_wp2_with fail
  refine (join_any A B _ _ _ HA HB (by omega) _).mono ?_
  rintro e w5 ⟨rfl, rfl⟩
  rw [E2.out 0 (by omega)]
  go_wp2_with fail
  refine (join_any A B _ _ _ HA HB (by omega) _).mono ?_
  rintro e w6 ⟨rfl, rfl⟩
  rw [E2.out _ (by omega)]
  go_wp2_with fail
  go_ret
  exact ⟨rfl, hfin⟩
end Zeros
end Go.Proofs.Ytdjdoanlancplaa
