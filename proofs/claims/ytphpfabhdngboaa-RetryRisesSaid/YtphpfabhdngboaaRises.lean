/- RetryRises: the walk of the law. -/
import Derived.Test.YtphpfabhdngboaaNext
import Derived.Test.YtphpfabhdngboaaLaw
namespace Go.Proofs.Ytphpfabhdngboaa
open Go.RowKit
namespace Rises

theorem and_mask (x : Int) (m : Nat) (hm : m < 9223372036854775808) : 0 ≤ bits .and .i64 x (m : Int) ∧ bits .and .i64 x (m : Int) ≤ m := by
  have hx : (BitVec.ofInt 64 x &&& BitVec.ofInt 64 (m : Int)).toNat ≤ m := by
    rw [BitVec.toNat_and, BitVec.ofInt_natCast, BitVec.toNat_ofNat, Nat.mod_eq_of_lt (show m < 2 ^ 64 by omega)]
    exact Nat.and_le_right
  show 0 ≤ IntKind.i64.wrap ((BitVec.ofInt 64 x &&& BitVec.ofInt 64 (m : Int)).toNat : Int) ∧ IntKind.i64.wrap ((BitVec.ofInt 64 x &&& BitVec.ofInt 64 (m : Int)).toNat : Int) ≤ m
  rw [IntKind.wrap_i64]
  omega

theorem facts (k now : Int) (h0 : 0 ≤ now) (h1 : now ≤ 1099511627775) :
    0 ≤ dl k ∧ dl k ≤ dl (k + 1) ∧ dl (k + 1) ≤ 64 ∧ (k < 1 ∨ 1 ≤ dl k) ∧ now ≤ nextv now k ∧ nextv now k ≤ nextv now (k + 1) := by
  unfold nextv clockv dl; omega

/-- behind the law's choice of the attempt -/
theorem rest (k now : Int) (h0 : 0 ≤ now) (h1 : now ≤ 1099511627775) :
    (0 ≤ dl k ∧ dl k ≤ dl (k + 1) ∧ dl (k + 1) ≤ 64 ∧ now ≤ nextv now k ∧ nextv now k ≤ nextv now (k + 1)) ∧ (k < 1 ∨ (1 ≤ k ∧ 1 ≤ dl k)) ∧ ((deadv k = true ∧ deadv (k + 1) = true) ∨ deadv k = false) := by
  have h := facts k now h0 h1
  refine ⟨⟨h.1, h.2.1, h.2.2.1, h.2.2.2.2.1, h.2.2.2.2.2⟩, by omega, ?_⟩
  unfold deadv
  by_cases h8 : 8 ≤ k
  · left; simp; omega
  · right; simp; omega

set_option maxHeartbeats 4000000 in
theorem walk (n : Int) (hn : (Lit.int .i64 n).wf = true) (t : Int) (_ : (Lit.int .i64 t).wf = true) (w : World) :
    Calls Try.prog 5 #[.int .i64 n, .int .i64 t] w fun e w' => e = .returned (.bool true) ∧ Below w.heap.size w w' := by
  have hb := wf_i64 hn
  clear hn
  obtain ⟨N, hN⟩ : ∃ N, bits .and .i64 t 1099511627775 = N := ⟨_, rfl⟩
  have hN1 : 0 ≤ N ∧ N ≤ 1099511627775 := by rw [← hN]; exact and_mask t 1099511627775 (by omega)
  by_cases hbig : 4611686018427387904 < n
  · obtain ⟨⟨f1, f2, f3, f4, f5⟩, f6, f7⟩ := rest 4611686018427387904 N hN1.1 hN1.2
    have f6' : 1 ≤ dl 4611686018427387904 := by omega
    have f7' : deadv 4611686018427387904 = true := by decide
    have f8' : deadv (4611686018427387904 + 1) = true := by decide
    clear f6 f7
    go_enter Try.func5, Try.ntmps5
    go_wp2_with (first | (go_at_call 8; refine (awake_any _).mono ?_; rintro e w1 ⟨rfl, hb1⟩) | (go_at_call 10; refine (delay_any _ _ (by omega) (by omega)).mono ?_; rintro e w' ⟨rfl, rfl⟩) | (go_at_call 12; refine (next_any _ _ _ (by omega) (by omega)).mono ?_; rintro e w' ⟨rfl, rfl⟩) | (go_at_call 13; refine (dead_any _ _).mono ?_; rintro e w' ⟨rfl, rfl⟩))
    all_goals go_ret
    all_goals exact ⟨rfl, hb1⟩
  · obtain ⟨⟨f1, f2, f3, f4, f5⟩, f6, f7⟩ := rest n N hN1.1 hN1.2
    rcases f6 with f6 | ⟨f6, f6'⟩ <;> rcases f7 with ⟨f7, f8⟩ | f7
    all_goals
      go_enter Try.func5, Try.ntmps5
      go_wp2_with (first | (go_at_call 8; refine (awake_any _).mono ?_; rintro e w1 ⟨rfl, hb1⟩) | (go_at_call 10; refine (delay_any _ _ (by omega) (by omega)).mono ?_; rintro e w' ⟨rfl, rfl⟩) | (go_at_call 12; refine (next_any _ _ _ (by omega) (by omega)).mono ?_; rintro e w' ⟨rfl, rfl⟩) | (go_at_call 13; refine (dead_any _ _).mono ?_; rintro e w' ⟨rfl, rfl⟩))
      all_goals go_ret
      all_goals exact ⟨rfl, hb1⟩
end Rises
end Go.Proofs.Ytphpfabhdngboaa
