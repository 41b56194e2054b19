/- RetryTells: the walk of the law. -/
import Derived.Test.YtphpfabhdngboaaRefs
import Derived.Test.YtphpfabhdngboaaLaw
namespace Go.Proofs.Ytphpfabhdngboaa
open Go.RowKit
namespace Tells

set_option maxHeartbeats 1000000 in
theorem rwithin_any (n e : Int) (w : World) (hn : n ≤ 2000) :
    Calls Try.prog 18 #[.int .i64 n, .int .i64 e] w fun r w' => r = .returned (.int .i64 (withinv n e)) ∧ w = w' := by
  have hs := sumv_bd 1 n
  by_cases h : n < 1
  · rw [show withinv n e = 0 from if_pos h]
    go_enter Try.func18, Try.ntmps18
    go_wp2
    go_ret
    exact ⟨rfl, rfl⟩
  · have hw : withinv n e = sumv 1 n + n * (min (max e 1) 1000000 - 1) := if_neg h
    by_cases h1 : e < 1
    · rw [show min (max e 1) 1000000 = 1 from by omega] at hw
      rw [hw]
      clear hw
      go_enter Try.func18, Try.ntmps18
      go_wp2_with (go_at_call 17; refine (rsum_any _ _ _ (by omega) (by omega)).mono ?_; rintro e w' ⟨rfl, rfl⟩)
      all_goals
        go_ret
        exact ⟨ret_int (by omega), rfl⟩
    · by_cases h2 : 1000000 < e
      · rw [show min (max e 1) 1000000 = 1000000 from by omega] at hw
        rw [hw]
        clear hw
        go_enter Try.func18, Try.ntmps18
        go_wp2_with (go_at_call 17; refine (rsum_any _ _ _ (by omega) (by omega)).mono ?_; rintro e w' ⟨rfl, rfl⟩)
        all_goals
          go_ret
          exact ⟨ret_int (by omega), rfl⟩
      · rw [show min (max e 1) 1000000 = e from by omega] at hw
        rw [hw]
        clear hw
        have hm := mul_bd n (e - 1) (by omega) hn (by omega) (by omega)
        go_enter Try.func18, Try.ntmps18
        go_wp2_with (go_at_call 17; refine (rsum_any _ _ _ (by omega) (by omega)).mono ?_; rintro e w' ⟨rfl, rfl⟩)
        all_goals
          go_ret
          exact ⟨ret_int (by omega), rfl⟩

theorem dead_cases (n : Int) : (decide (8 ≤ n) = true ∧ deadv n = true) ∨ (decide (8 ≤ n) = false ∧ deadv n = false) := by
  unfold deadv
  by_cases h : 8 ≤ n
  · left; simp [h]
  · right; simp [h]

set_option maxHeartbeats 4000000 in
theorem walk (n : Int) (hn : (Lit.int .i64 n).wf = true) (now : Int) (_ : (Lit.int .i64 now).wf = true) (a b : Int) (hab : ∀ z ∈ [a, b], (Lit.int .i64 z).wf = true) (w : World) :
    Calls Try.prog 7 #[.int .i64 n, .int .i64 now, .agg #[.int .i64 a, .int .i64 b]] w fun e w' => e = .returned (.bool true) ∧ Below w.heap.size w w' := by
  have hnb := wf_i64 hn
  have ha := wf_i64 (hab a (by simp))
  have hb := wf_i64 (hab b (by simp))
  clear hn hab
  obtain ⟨r, hr⟩ : ∃ r, b.tmod 2000 = r := ⟨_, rfl⟩
  have hr1 : -2000 < r ∧ r < 2000 := by rw [← hr]; have := Int.tmod_lt_of_pos b (show (0 : Int) < 2000 by omega); have := Int.lt_tmod_of_pos b (show (0 : Int) < 2000 by omega); omega
  have hrr : r.tmod 2000 = r := by rw [← hr]; exact Int.tmod_tmod _ _
  obtain ⟨s, hs⟩ : ∃ s, a.tmod 2000 = s := ⟨_, rfl⟩
  have hs1 : -2000 < s ∧ s < 2000 := by rw [← hs]; have := Int.tmod_lt_of_pos a (show (0 : Int) < 2000 by omega); have := Int.lt_tmod_of_pos a (show (0 : Int) < 2000 by omega); omega
  rcases dead_cases n with ⟨h8, hd⟩ | ⟨h8, hd⟩ <;> by_cases hb1 : 1 ≤ b <;> by_cases ha6 : a ≤ 1000000
  all_goals
    go_enter Try.func7, Try.ntmps7
    go_wp2_with (first | (go_at_call 8; refine (awake_any _).mono ?_; rintro e w1 ⟨rfl, hw1⟩; have c0 := (hw1.cell (p := ⟨w.heap.size, 0, none⟩) (by simp)).trans (by simp : _ = some (Value.int .i64 a)); have c1 := (hw1.cell (p := ⟨w.heap.size, 1, none⟩) (by simp)).trans (by simp : _ = some (Value.int .i64 b))) | (go_at_call 10; refine (delay_any _ _ (by omega) (by omega)).mono ?_; rintro e w' ⟨rfl, rfl⟩) | (go_at_call 15; refine (rdelay_any _ _ (by omega) (by omega)).mono ?_; rintro e w' ⟨rfl, rfl⟩) | (go_at_call 12; refine (next_any _ _ _ (by omega) (by omega)).mono ?_; rintro e w' ⟨rfl, rfl⟩) | (go_at_call 16; refine (rnext_any _ _ _ (by omega) (by omega)).mono ?_; rintro e w' ⟨rfl, rfl⟩) | (go_at_call 13; refine (dead_any _ _).mono ?_; rintro e w' ⟨rfl, rfl⟩) | (go_at_call 9; refine (sum_any _ _ _).mono ?_; rintro e w' ⟨rfl, hb⟩) | (go_at_call 17; refine (rsum_any _ _ _ (by omega) (by omega)).mono ?_; rintro e w' ⟨rfl, rfl⟩) | (go_at_call 14; refine (within_any _ _ _ (by omega)).mono ?_; rintro e w' ⟨rfl, hb⟩) | (go_at_call 18; refine (rwithin_any _ _ _ (by omega)).mono ?_; rintro e w' ⟨rfl, rfl⟩))
    go_ret
    exact ⟨rfl, by repeat (first | exact (Below.refl _ _).alloc (Nat.le_refl _) _ | refine below_seq ?_ (by assumption))⟩
end Tells
end Go.Proofs.Ytphpfabhdngboaa
