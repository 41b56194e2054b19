/- The contract of Tries, and what its rounds do. -/
import Derived.Test.YtphpfabhdngboaaMore
import Derived.Test.YtphpfabhdngboaaLaw
namespace Go.Proofs.Ytphpfabhdngboaa
open Go.RowKit

def triesv (t : Int) : Int := if t < 0 then 0 else if t < 1 then 1 else if t < 3 then 2 else if t < 7 then 3 else if t < 15 then 4 else if t < 31 then 5 else if t < 63 then 6 else if t < 127 then 7 else 8
theorem triesv_bd (t : Int) : 0 ≤ triesv t ∧ triesv t ≤ 8 := by unfold triesv; omega
theorem triesv_is (t k : Int) (h0 : 0 ≤ k) (h8 : k ≤ 8) (h : k = 0 ∨ upv (k - 1) ≤ t) (hend : k = 8 ∨ t < upv k) : triesv t = k := by unfold upv at *; unfold triesv; omega

set_option maxHeartbeats 1000000 in
theorem tries_any (t : Int) (w : World) :
    Calls Try.prog 11 #[.int .i64 t] w fun e w' => e = .returned (.int .i64 (triesv t)) ∧ Below w.heap.size w w' := by
  go_enter Try.func11, Try.ntmps11
  go_wp2
  go_loopw [3] (fun n wr => ∃ k : Nat, k ≤ 8 ∧ n = .int .i64 k ∧ (k = 0 ∨ upv ((k : Int) - 1) ≤ t) ∧ Below w.heap.size w wr) (fun n _ => 8 - (intOf n).toNat)
  case atStart => exact ⟨0, by omega, rfl, Or.inl rfl, Below.refl _ _⟩
  case round =>
    obtain ⟨k, hk, rfl, hu, hb⟩ := hrel
    have hu' : Hid (k = 0 ∨ upv ((k : Int) - 1) ≤ t) := hu
    clear hu
    by_cases h8 : k < 8
    · by_cases ht : upv k ≤ t
      · go_wp2_with (go_at_call 19; refine (up_any _ _ (by omega) (by omega)).mono ?_; rintro e w' ⟨rfl, hb'⟩)
        go_roundw
        case rel => exact ⟨k + 1, by omega, by go_num, Or.inr (by rw [show ((k + 1 : Nat) : Int) - 1 = k from by omega]; exact ht), hb.trans (hb'.mono hb.size)⟩
        case measure => simp [intOf]; omega
      · go_wp2_with (go_at_call 19; refine (up_any _ _ (by omega) (by omega)).mono ?_; rintro e w' ⟨rfl, hb'⟩)
        go_ret
        refine ⟨ret_int ?_, hb.trans (hb'.mono hb.size)⟩
        exact (triesv_is t k (by omega) (by omega) (by have := hu'.out; omega) (by omega)).symm
    · go_wp2_with fail
      go_ret
      refine ⟨ret_int ?_, hb⟩
      exact (triesv_is t k (by omega) (by omega) (by have := hu'.out; omega) (by omega)).symm

theorem tries_step (m n : Int) (hm : 0 ≤ m) (hn : n = triesv (m - 1)) : (upv n ≤ m ∧ n < 8 → triesv m = n + 1) ∧ (¬ (upv n ≤ m ∧ n < 8) → triesv m = n) := by
  subst hn
  unfold upv triesv
  omega
theorem upv_dl (m n : Int) (hm : 0 ≤ m) (hn : n = triesv (m - 1)) (h : upv n ≤ m) (h8 : n < 8) : m + dl (n + 1) = upv (n + 1) := by
  subst hn
  unfold upv triesv dl at *
  omega

end Go.Proofs.Ytphpfabhdngboaa
