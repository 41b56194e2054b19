/- The contract of Within. -/
import Derived.Test.YtphpfabhdngboaaNext
namespace Go.Proofs.Ytphpfabhdngboaa
open Go.RowKit

def withinv (n e : Int) : Int := if n < 1 then 0 else sumv 1 n + n * (min (max e 1) 1000000 - 1)

theorem upv_mono (a b : Int) (h : a ≤ b) : upv a ≤ upv b := by unfold upv; omega
theorem sumv_bd (f t : Int) : 0 ≤ sumv f t ∧ sumv f t ≤ 64000000 := by
  by_cases h : min t 1000000 < max f 1
  · rw [sumv_none f t h]; omega
  · rw [sumv_some f t (by omega)]
    have h1 := upv_bd (min t 1000000) (by omega)
    have h2 := upv_bd (max f 1 - 1) (by omega)
    have h3 := upv_mono (max f 1 - 1) (min t 1000000) (by omega)
    omega
theorem mul_bd (n x : Int) (h0 : 0 ≤ n) (h1 : n ≤ 2000) (h2 : 0 ≤ x) (h3 : x ≤ 999999) : 0 ≤ n * x ∧ n * x ≤ 2000000000 := by
  have a := Int.mul_nonneg h0 h2
  have b := Int.mul_le_mul h1 h3 h2 (by omega : (0 : Int) ≤ 2000)
  omega

set_option maxHeartbeats 1000000 in
theorem within_any (n e : Int) (w : World) (hn : n ≤ 2000) :
    Calls Try.prog 14 #[.int .i64 n, .int .i64 e] w fun r w' => r = .returned (.int .i64 (withinv n e)) ∧ Below w.heap.size w w' := by
  have hs := sumv_bd 1 n
  by_cases h : n < 1
  · rw [show withinv n e = 0 from if_pos h]
    go_enter Try.func14, Try.ntmps14
    go_wp2
    go_ret
    exact ⟨rfl, Below.refl _ _⟩
  · have hw : withinv n e = sumv 1 n + n * (min (max e 1) 1000000 - 1) := if_neg h
    by_cases h1 : e < 1
    · rw [show min (max e 1) 1000000 = 1 from by omega] at hw
      rw [hw]
      clear hw
      go_enter Try.func14, Try.ntmps14
      go_wp2_with (go_at_call 9; refine (sum_any _ _ _).mono ?_; rintro e w' ⟨rfl, hb⟩)
      all_goals
        go_ret
        exact ⟨ret_int (by omega), by assumption⟩
    · by_cases h2 : 1000000 < e
      · rw [show min (max e 1) 1000000 = 1000000 from by omega] at hw
        rw [hw]
        clear hw
        go_enter Try.func14, Try.ntmps14
        go_wp2_with (go_at_call 9; refine (sum_any _ _ _).mono ?_; rintro e w' ⟨rfl, hb⟩)
        all_goals
          go_ret
          exact ⟨ret_int (by omega), by assumption⟩
      · rw [show min (max e 1) 1000000 = e from by omega] at hw
        rw [hw]
        clear hw
        have hm := mul_bd n (e - 1) (by omega) hn (by omega) (by omega)
        by_cases h3 : 1 < e
        all_goals
          go_enter Try.func14, Try.ntmps14
          go_wp2_with (go_at_call 9; refine (sum_any _ _ _).mono ?_; rintro e w' ⟨rfl, hb⟩)
          all_goals
            go_ret
            first
              | exact ⟨rfl, by assumption⟩
              | (obtain rfl : e = 1 := by omega
                 exact ⟨ret_int (by omega), by assumption⟩)

end Go.Proofs.Ytphpfabhdngboaa
