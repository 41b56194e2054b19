/- The contracts of the layer retry, further: sums, tries, times. -/
import Derived.Test.YtphpfabhdngboaaWalks
namespace Go.Proofs.Ytphpfabhdngboaa
open Go.RowKit

def sumv (f t : Int) : Int := if min t 1000000 < max f 1 then 0 else upv (min t 1000000) - upv (max f 1 - 1)
theorem sumv_none (f t : Int) (h : min t 1000000 < max f 1) : sumv f t = 0 := if_pos h
theorem sumv_some (f t : Int) (h : max f 1 ≤ min t 1000000) : sumv f t = upv (min t 1000000) - upv (max f 1 - 1) := if_neg (by omega)

theorem below_seq {w w1 w2 : World} (h1 : Below w.heap.size w w1) (h2 : Below w1.heap.size w1 w2) : Below w.heap.size w w2 := h1.trans (h2.mono h1.size)

set_option maxHeartbeats 1000000 in
theorem sum_any (f t : Int) (w : World) :
    Calls Try.prog 9 #[.int .i64 f, .int .i64 t] w fun e w' => e = .returned (.int .i64 (sumv f t)) ∧ Below w.heap.size w w' := by
  by_cases h : min t 1000000 < max f 1
  · rw [sumv_none f t h]
    by_cases hf : f < 1 <;> by_cases ht : 1000000 < t
    · omega
    all_goals
      go_enter Try.func9, Try.ntmps9
      go_wp2_with fail
      all_goals
        go_ret
        exact ⟨rfl, Below.refl _ _⟩
  · rw [sumv_some f t (by omega)]
    by_cases hf : f < 1 <;> by_cases ht : 1000000 < t
    · rw [show max f 1 = 1 from by omega, show min t 1000000 = 1000000 from by omega]
      have hu := upv_bd 1000000 (by omega)
      have hv := upv_bd 0 (by omega)
      go_enter Try.func9, Try.ntmps9
      go_wp2_with (go_at_call 19; refine (up_any _ _ (by omega) (by omega)).mono ?_; rintro e w' ⟨rfl, hb⟩)
      go_ret
      exact ⟨rfl, by repeat (first | exact Below.refl _ _ | refine below_seq ?_ (by assumption))⟩
    · rw [show max f 1 = 1 from by omega, show min t 1000000 = t from by omega]
      have hu := upv_bd t (by omega)
      have hv := upv_bd 0 (by omega)
      go_enter Try.func9, Try.ntmps9
      go_wp2_with (go_at_call 19; refine (up_any _ _ (by omega) (by omega)).mono ?_; rintro e w' ⟨rfl, hb⟩)
      go_ret
      exact ⟨rfl, by repeat (first | exact Below.refl _ _ | refine below_seq ?_ (by assumption))⟩
    · rw [show max f 1 = f from by omega, show min t 1000000 = 1000000 from by omega]
      have hu := upv_bd 1000000 (by omega)
      have hv := upv_bd (f - 1) (by omega)
      go_enter Try.func9, Try.ntmps9
      go_wp2_with (go_at_call 19; refine (up_any _ _ (by omega) (by omega)).mono ?_; rintro e w' ⟨rfl, hb⟩)
      go_ret
      exact ⟨rfl, by repeat (first | exact Below.refl _ _ | refine below_seq ?_ (by assumption))⟩
    · rw [show max f 1 = f from by omega, show min t 1000000 = t from by omega]
      have hu := upv_bd t (by omega)
      have hv := upv_bd (f - 1) (by omega)
      go_enter Try.func9, Try.ntmps9
      go_wp2_with (go_at_call 19; refine (up_any _ _ (by omega) (by omega)).mono ?_; rintro e w' ⟨rfl, hb⟩)
      go_ret
      exact ⟨rfl, by repeat (first | exact Below.refl _ _ | refine below_seq ?_ (by assumption))⟩

set_option maxHeartbeats 1000000 in
/-- the chapter's examples hold -/
theorem awake_any (w : World) : Calls Try.prog 8 #[] w fun e w' => e = .returned (.bool true) ∧ Below w.heap.size w w' := by
  have d1 : (dl 1 == 1) = true := by decide
  have d4 : (dl 4 == 8) = true := by decide
  have d8 : (dl 8 == 64) = true := by decide
  have d99 : (dl 99 == 64) = true := by decide
  have s17 : (sumv 1 7 == 127) = true := by decide
  go_enter Try.func8, Try.ntmps8
  go_wp2_with (first | (go_at_call 10; refine (delay_any _ _ (by omega) (by omega)).mono ?_; rintro e w' ⟨rfl, rfl⟩) | (go_at_call 9; refine (sum_any _ _ _).mono ?_; rintro e w' ⟨rfl, hb⟩))
  go_ret
  exact ⟨rfl, by repeat (first | exact Below.refl _ _ | refine below_seq ?_ (by assumption))⟩

end Go.Proofs.Ytphpfabhdngboaa
