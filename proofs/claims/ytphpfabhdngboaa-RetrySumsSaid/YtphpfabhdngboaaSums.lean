/- RetrySums: whatever the input, the law answers true and the input reads as it did. -/
import Derived.Test.YtphpfabhdngboaaMore
import Derived.Test.YtphpfabhdngboaaLaw
namespace Go.Proofs.Ytphpfabhdngboaa
open Go.ChangeShapes Go.WideShapes Go.ChangeAt Go.RowKit

theorem and_mask (x : Int) (m : Nat) (hm : m < 9223372036854775808) : 0 ≤ bits .and .i64 x (m : Int) ∧ bits .and .i64 x (m : Int) ≤ m := by
  have hx : (BitVec.ofInt 64 x &&& BitVec.ofInt 64 (m : Int)).toNat ≤ m := by
    rw [BitVec.toNat_and, BitVec.ofInt_natCast, BitVec.toNat_ofNat, Nat.mod_eq_of_lt (show m < 2 ^ 64 by omega)]
    exact Nat.and_le_right
  show 0 ≤ IntKind.i64.wrap ((BitVec.ofInt 64 x &&& BitVec.ofInt 64 (m : Int)).toNat : Int) ∧ IntKind.i64.wrap ((BitVec.ofInt 64 x &&& BitVec.ofInt 64 (m : Int)).toNat : Int) ≤ m
  rw [IntKind.wrap_i64]
  omega

namespace Sums

theorem parts (a b c : Int) (h1 : 1 ≤ a) (h2 : a ≤ b) (h3 : b + 1 ≤ c) (h4 : c ≤ 1000) :
    sumv a c = sumv a b + sumv (b + 1) c ∧ sumv a a = dl a ∧ sumv (b + 1) b = 0 ∧ sumv (-a) b = sumv 1 b := by
  refine ⟨?_, ?_, ?_, ?_⟩
  · rw [sumv_some a c (by omega), sumv_some a b (by omega), sumv_some (b + 1) c (by omega)]
    rw [show min c 1000000 = c from by omega, show max a 1 = a from by omega, show min b 1000000 = b from by omega, show max (b + 1) 1 = b + 1 from by omega, show b + 1 - 1 = b from by omega]
    omega
  · rw [sumv_some a a (by omega), show min a 1000000 = a from by omega, show max a 1 = a from by omega]
    have := upv_succ (a - 1) (by omega)
    rw [show a - 1 + 1 = a from by omega] at this
    omega
  · exact sumv_none _ _ (by omega)
  · rw [sumv_some (-a) b (by omega), sumv_some 1 b (by omega), show max (-a) 1 = 1 from by omega, show max 1 1 = (1 : Int) from by omega]

theorem upv_mono (a b : Int) (h : a ≤ b) : upv a ≤ upv b := by unfold upv; omega
theorem sumv_bd (f t : Int) : 0 ≤ sumv f t ∧ sumv f t ≤ 64000000 := by
  by_cases h : min t 1000000 < max f 1
  · rw [sumv_none f t h]; omega
  · rw [sumv_some f t (by omega)]
    have h1 := upv_bd (min t 1000000) (by omega)
    have h2 := upv_bd (max f 1 - 1) (by omega)
    have h3 := upv_mono (max f 1 - 1) (min t 1000000) (by omega)
    omega

set_option maxHeartbeats 1000000 in
theorem walk (q0 q1 q2 : Int) (_ : ∀ z ∈ [q0, q1, q2], (Lit.int .i64 z).wf = true) (w : World) :
    Calls Try.prog 3 #[.agg #[.int .i64 q0, .int .i64 q1, .int .i64 q2]] w fun e w' => e = .returned (.bool true) ∧ Below w.heap.size w w' := by
  obtain ⟨A, hA⟩ : ∃ A, bits .and .i64 q0 255 = A := ⟨_, rfl⟩
  obtain ⟨B, hB⟩ : ∃ B, bits .and .i64 q1 127 = B := ⟨_, rfl⟩
  obtain ⟨C, hC⟩ : ∃ C, bits .and .i64 q2 127 = C := ⟨_, rfl⟩
  have h0 : 0 ≤ A ∧ A ≤ 255 := by rw [← hA]; exact and_mask q0 255 (by omega)
  have h1 : 0 ≤ B ∧ B ≤ 127 := by rw [← hB]; exact and_mask q1 127 (by omega)
  have h2 : 0 ≤ C ∧ C ≤ 127 := by rw [← hC]; exact and_mask q2 127 (by omega)
  have hp := parts (1 + A) (1 + A + B) (1 + A + B + 1 + C) (by omega) (by omega) (by omega) (by omega)
  have p1 : (sumv (1 + A) (1 + A + B + 1 + C) == sumv (1 + A) (1 + A + B) + sumv (1 + A + B + 1) (1 + A + B + 1 + C)) = true := by rw [beq_iff_eq]; exact hp.1
  have p2 : (sumv (1 + A) (1 + A) == dl (1 + A)) = true := by rw [beq_iff_eq]; exact hp.2.1
  have p3 : (sumv (1 + A + B + 1) (1 + A + B) == 0) = true := by rw [beq_iff_eq]; exact hp.2.2.1
  have p4 : (sumv (-(1 + A)) (1 + A + B) == sumv 1 (1 + A + B)) = true := by rw [beq_iff_eq]; exact hp.2.2.2
  have s1 := sumv_bd (1 + A) (1 + A + B)
  have s2 := sumv_bd (1 + A + B + 1) (1 + A + B + 1 + C)
  clear hp
  go_enter Try.func3, Try.ntmps3
  go_wp2_with (first | (go_at_call 8; refine (awake_any _).mono ?_; rintro e w' ⟨rfl, hb⟩; have c0 := (hb.cell (p := ⟨w.heap.size, 0, none⟩) (by simp)).trans (by simp : _ = some (Value.int .i64 q0)); have c1 := (hb.cell (p := ⟨w.heap.size, 1, none⟩) (by simp)).trans (by simp : _ = some (Value.int .i64 q1)); have c2 := (hb.cell (p := ⟨w.heap.size, 2, none⟩) (by simp)).trans (by simp : _ = some (Value.int .i64 q2))) | (go_at_call 9; refine (sum_any _ _ _).mono ?_; rintro e w' ⟨rfl, hb⟩) | (go_at_call 10; refine (delay_any _ _ (by omega) (by omega)).mono ?_; rintro e w' ⟨rfl, rfl⟩))
  go_ret
  exact ⟨rfl, by repeat (first | exact (Below.refl _ _).alloc (Nat.le_refl _) _ | refine below_seq ?_ (by assumption))⟩

end Sums
end Go.Proofs.Ytphpfabhdngboaa
