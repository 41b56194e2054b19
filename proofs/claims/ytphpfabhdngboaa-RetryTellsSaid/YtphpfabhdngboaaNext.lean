/- The contracts of Next and of Dead. -/
import Derived.Test.YtphpfabhdngboaaMore
import Derived.Lib.Hide
namespace Go.Proofs.Ytphpfabhdngboaa
open Go.RowKit

def clockv (now t : Int) : Int := if now < 0 then 0 else min (min now 1099511627776 + t) 1099511627776
def nextv (now n : Int) : Int := clockv now (dl n)

set_option maxHeartbeats 1000000 in
theorem clock_any (now t : Int) (w : World) (h0 : 0 ≤ t) (h1 : t ≤ 64) :
    Calls Try.prog 20 #[.int .i64 now, .int .i64 t] w fun e w' => e = .returned (.int .i64 (clockv now t)) ∧ w = w' := by
  by_cases hn : now < 0
  · rw [show clockv now t = 0 from by unfold clockv; omega]
    go_enter Try.func20, Try.ntmps20
    go_wp2
    go_ret
    exact ⟨rfl, rfl⟩
  · by_cases hM : 1099511627776 < now
    · rw [show clockv now t = 1099511627776 from by unfold clockv; omega]
      by_cases hp : 0 < t
      all_goals
        go_enter Try.func20, Try.ntmps20
        go_wp2
        all_goals
          go_ret
          exact ⟨ret_int (by omega), rfl⟩
    · by_cases hs : 1099511627776 < now + t
      · rw [show clockv now t = 1099511627776 from by unfold clockv; omega]
        go_enter Try.func20, Try.ntmps20
        go_wp2
        all_goals
          go_ret
          exact ⟨ret_int (by omega), rfl⟩
      · rw [show clockv now t = now + t from by unfold clockv; omega]
        by_cases hlt : t < now
        all_goals
          go_enter Try.func20, Try.ntmps20
          go_wp2
          all_goals
            go_ret
            exact ⟨ret_int (by omega), rfl⟩

theorem next_any (now n : Int) (w : World) (h1 : -9223372036854775808 ≤ n) (h2 : n ≤ 9223372036854775807) :
    Calls Try.prog 12 #[.int .i64 now, .int .i64 n] w fun e w' => e = .returned (.int .i64 (nextv now n)) ∧ w = w' := by
  have hd := dl_bd n
  unfold nextv
  go_enter Try.func12, Try.ntmps12
  go_wp2_with (first | (go_at_call 10; refine (delay_any _ _ (by omega) (by omega)).mono ?_; rintro e w' ⟨rfl, rfl⟩) | (go_at_call 20; refine (clock_any _ _ _ (by omega) (by omega)).mono ?_; rintro e w' ⟨rfl, rfl⟩))
  go_ret
  exact ⟨rfl, rfl⟩

def deadv (n : Int) : Bool := decide (8 ≤ n)
theorem dead_any (n : Int) (w : World) : Calls Try.prog 13 #[.int .i64 n] w fun e w' => e = .returned (.bool (deadv n)) ∧ w = w' := by
  unfold deadv
  go_enter Try.func13, Try.ntmps13
  go_wp2
  go_ret
  exact ⟨rfl, rfl⟩

end Go.Proofs.Ytphpfabhdngboaa
