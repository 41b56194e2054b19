/- BucketWaits: the walk of the law. -/
import Derived.Test.YtpfogfglkknmoaaSls
namespace Go.Proofs.Ytpfogfglkknmoaa
open Go.RowKit
namespace Waits
set_option maxHeartbeats 4000000 in
theorem walk (A : Option Addr) (len c : Nat) (f : Nat → Int × Int) (hlc : len ≤ c) (hlen : len ≤ maxLen) (q0 q1 : Int) (w : World) (hs : Src w A len f) :
    Calls Try.prog 6 #[.slice A len c, .agg #[.int .i64 q0, .int .i64 q1]] w fun e w' => e = .returned (.bool true) ∧ Below w.heap.size w w' := by
  have HS := Lib.hid hs
  clear hs
  have hb255 := i64_and255 q1
  have hm0 := Int.emod_nonneg q1 (show (256 : Int) ≠ 0 by omega)
  have hm1 := Int.emod_lt_of_pos q1 (show (0 : Int) < 256 by omega)
  generalize q1 % 256 = t at *
  have hlenZ : (len : Int) ≤ 9223372036854775807 := by unfold maxLen at hlen; omega
  have hlcZ : (len : Int) ≤ (c : Int) := by omega
  have hv := rowsP_valid f (min (min len 24) 26) (by omega)
  have hrl := rowsP_length f (min (min len 24) 26)
  have hrows : ∀ W, Below w.heap.size w W → Calls Try.prog 11 #[.slice A (min len 24) c] W fun e w' => ∃ v', e = .returned v' ∧ Below W.heap.size W w' ∧ Made W.heap.size v' (rowsP f (min (min len 24) 26)) w' :=
    fun W hW => rows_any A (min len 24) c f (by omega) W ((HS.out.below hW).cut _ (by omega))
  generalize rowsP f (min (min len 24) 26) = r at *
  have hr100 : r.length ≤ 100 := by omega
  clear hrl
  have hkey := fun W => key_any q0 W
  generalize keyP q0 = k at *
  have hw := waits hv k (show (127 : Int) ≤ 127 + t by omega)
  have hwait := fun v W hW => Wait_sl hv (by omega) hr100 k (127 + t) (by unfold Time; omega) v W hW
  have hl0 := fun v W hW => Left_sl hv (by omega) hr100 k (127 + t) (by unfold Time; omega) v W hW
  have hl1 := fun v W hW => Left_sl hv (by omega) hr100 k (127 + t + waitP r k (127 + t)) (by unfold Time; omega) v W hW
  have hl2 := fun (hz : ¬ waitP r k (127 + t) = 0) v W hW => Left_sl hv (by omega) hr100 k (127 + t + waitP r k (127 + t) - 1) (by unfold Time; omega) v W hW
  obtain ⟨hw0, hw25, hwl, hw1, hw2⟩ := hw
  generalize LeftP r k (127 + t) = L0 at *
  generalize LeftP r k (127 + t + waitP r k (127 + t)) = L1 at *
  generalize LeftP r k (127 + t + waitP r k (127 + t) - 1) = L2 at *
  generalize waitP r k (127 + t) = wt at *
  by_cases h24 : 24 < len
  · have h24Z : (24 : Int) < (len : Int) := by omega
    have h24c : (24 : Int) ≤ (c : Int) := by omega
    rw [show min len 24 = 24 from by omega] at hrows
    by_cases hz : wt = 0
    · have hL0 : 0 < L0 := hwl.1 hz
      have hL1 : ¬ L1 < 1 := by omega
      have z1 : (wt == 0) = true := by rw [hz]; rfl
      have z2 : decide (0 < L0) = true := decide_eq_true hL0
      have z3 : decide (wt < 0) = false := decide_eq_false (by omega)
      have z4 : decide (25 < wt) = false := decide_eq_false (by omega)
      have z5 : decide (L1 < 1) = false := decide_eq_false hL1
      clear hl2 hw2 hw1 hwl hz hL0 hL1
      go_enter Try.func6, Try.ntmps6
      go_wp2_with (go_at_call 10; refine (awake_any _).mono ?_; rintro e w1 ⟨rfl, hb1⟩)
      go_at_call 11
      refine (hrows _ (below_box2 hb1)).mono ?_
      rintro e w2 ⟨v2, rfl, hb2, hm2⟩
      have hsl := hm2.sl
      have hp1 : w.heap.size < w1.heap.size := Nat.lt_of_lt_of_le (by simp) hb1.size
      have c0 : w2.cell? ⟨w.heap.size, 0, none⟩ = some (.int .i64 q0) := (hb2.cell (p := ⟨w.heap.size, 0, none⟩) hp1).trans ((hb1.cell (p := ⟨w.heap.size, 0, none⟩) (by simp)).trans (by simp))
      have c1 : w2.cell? ⟨w.heap.size, 1, none⟩ = some (.int .i64 q1) := (hb2.cell (p := ⟨w.heap.size, 1, none⟩) hp1).trans ((hb1.cell (p := ⟨w.heap.size, 1, none⟩) (by simp)).trans (by simp))
      go_wp2_with (go_at_call 12; refine (hkey _).mono ?_; rintro e w' ⟨rfl, rfl⟩)
      go_at_call 18
      refine (hwait _ _ hsl).mono ?_
      rintro e w3 ⟨rfl, hb3⟩
      go_wp2_with fail
      go_at_call 15
      refine (hl0 _ _ (hsl.below hb3)).mono ?_
      rintro e w4 ⟨rfl, hb4⟩
      go_wp2_with (go_at_call 15; refine (hl1 _ _ ((hsl.below hb3).below hb4)).mono ?_; rintro e w5 ⟨rfl, hb5⟩)
      go_ret
      exact ⟨rfl, below_seq (below_seq (below_seq (below_seq (below_box2 hb1) hb2) hb3) hb4) hb5⟩
    · have hL0 : ¬ 0 < L0 := fun h => hz (hwl.2 h)
      have hL1 : ¬ L1 < 1 := by omega
      have hL2 : L2 = 0 := by omega
      subst hL2
      have hl2' := hl2 hz
      have z1 : (wt == 0) = false := by simp [hz]
      have z2 : decide (0 < L0) = false := decide_eq_false hL0
      have z3 : decide (wt < 0) = false := decide_eq_false (by omega)
      have z4 : decide (25 < wt) = false := decide_eq_false (by omega)
      have z5 : decide (L1 < 1) = false := decide_eq_false hL1
      clear hl2 hw2 hw1 hwl hz hL0 hL1
      go_enter Try.func6, Try.ntmps6
      go_wp2_with (go_at_call 10; refine (awake_any _).mono ?_; rintro e w1 ⟨rfl, hb1⟩)
      go_at_call 11
      refine (hrows _ (below_box2 hb1)).mono ?_
      rintro e w2 ⟨v2, rfl, hb2, hm2⟩
      have hsl := hm2.sl
      have hp1 : w.heap.size < w1.heap.size := Nat.lt_of_lt_of_le (by simp) hb1.size
      have c0 : w2.cell? ⟨w.heap.size, 0, none⟩ = some (.int .i64 q0) := (hb2.cell (p := ⟨w.heap.size, 0, none⟩) hp1).trans ((hb1.cell (p := ⟨w.heap.size, 0, none⟩) (by simp)).trans (by simp))
      have c1 : w2.cell? ⟨w.heap.size, 1, none⟩ = some (.int .i64 q1) := (hb2.cell (p := ⟨w.heap.size, 1, none⟩) hp1).trans ((hb1.cell (p := ⟨w.heap.size, 1, none⟩) (by simp)).trans (by simp))
      go_wp2_with (go_at_call 12; refine (hkey _).mono ?_; rintro e w' ⟨rfl, rfl⟩)
      go_at_call 18
      refine (hwait _ _ hsl).mono ?_
      rintro e w3 ⟨rfl, hb3⟩
      go_wp2_with fail
      go_at_call 15
      refine (hl0 _ _ (hsl.below hb3)).mono ?_
      rintro e w4 ⟨rfl, hb4⟩
      go_wp2_with fail
      go_at_call 15
      refine (hl1 _ _ ((hsl.below hb3).below hb4)).mono ?_
      rintro e w5 ⟨rfl, hb5⟩
      go_wp2_with fail
      go_at_call 15
      refine (hl2' _ _ (((hsl.below hb3).below hb4).below hb5)).mono ?_
      rintro e w6 ⟨rfl, hb6⟩
      go_wp2_with fail
      go_ret
      exact ⟨rfl, below_seq (below_seq (below_seq (below_seq (below_seq (below_box2 hb1) hb2) hb3) hb4) hb5) hb6⟩
  · have h24Z : ¬ (24 : Int) < (len : Int) := by omega
    rw [show min len 24 = len from by omega] at hrows
    by_cases hz : wt = 0
    · have hL0 : 0 < L0 := hwl.1 hz
      have hL1 : ¬ L1 < 1 := by omega
      have z1 : (wt == 0) = true := by rw [hz]; rfl
      have z2 : decide (0 < L0) = true := decide_eq_true hL0
      have z3 : decide (wt < 0) = false := decide_eq_false (by omega)
      have z4 : decide (25 < wt) = false := decide_eq_false (by omega)
      have z5 : decide (L1 < 1) = false := decide_eq_false hL1
      clear hl2 hw2 hw1 hwl hz hL0 hL1
      go_enter Try.func6, Try.ntmps6
      go_wp2_with (go_at_call 10; refine (awake_any _).mono ?_; rintro e w1 ⟨rfl, hb1⟩)
      go_at_call 11
      refine (hrows _ (below_box2 hb1)).mono ?_
      rintro e w2 ⟨v2, rfl, hb2, hm2⟩
      have hsl := hm2.sl
      have hp1 : w.heap.size < w1.heap.size := Nat.lt_of_lt_of_le (by simp) hb1.size
      have c0 : w2.cell? ⟨w.heap.size, 0, none⟩ = some (.int .i64 q0) := (hb2.cell (p := ⟨w.heap.size, 0, none⟩) hp1).trans ((hb1.cell (p := ⟨w.heap.size, 0, none⟩) (by simp)).trans (by simp))
      have c1 : w2.cell? ⟨w.heap.size, 1, none⟩ = some (.int .i64 q1) := (hb2.cell (p := ⟨w.heap.size, 1, none⟩) hp1).trans ((hb1.cell (p := ⟨w.heap.size, 1, none⟩) (by simp)).trans (by simp))
      go_wp2_with (go_at_call 12; refine (hkey _).mono ?_; rintro e w' ⟨rfl, rfl⟩)
      go_at_call 18
      refine (hwait _ _ hsl).mono ?_
      rintro e w3 ⟨rfl, hb3⟩
      go_wp2_with fail
      go_at_call 15
      refine (hl0 _ _ (hsl.below hb3)).mono ?_
      rintro e w4 ⟨rfl, hb4⟩
      go_wp2_with (go_at_call 15; refine (hl1 _ _ ((hsl.below hb3).below hb4)).mono ?_; rintro e w5 ⟨rfl, hb5⟩)
      go_ret
      exact ⟨rfl, below_seq (below_seq (below_seq (below_seq (below_box2 hb1) hb2) hb3) hb4) hb5⟩
    · have hL0 : ¬ 0 < L0 := fun h => hz (hwl.2 h)
      have hL1 : ¬ L1 < 1 := by omega
      have hL2 : L2 = 0 := by omega
      subst hL2
      have hl2' := hl2 hz
      have z1 : (wt == 0) = false := by simp [hz]
      have z2 : decide (0 < L0) = false := decide_eq_false hL0
      have z3 : decide (wt < 0) = false := decide_eq_false (by omega)
      have z4 : decide (25 < wt) = false := decide_eq_false (by omega)
      have z5 : decide (L1 < 1) = false := decide_eq_false hL1
      clear hl2 hw2 hw1 hwl hz hL0 hL1
      go_enter Try.func6, Try.ntmps6
      go_wp2_with (go_at_call 10; refine (awake_any _).mono ?_; rintro e w1 ⟨rfl, hb1⟩)
      go_at_call 11
      refine (hrows _ (below_box2 hb1)).mono ?_
      rintro e w2 ⟨v2, rfl, hb2, hm2⟩
      have hsl := hm2.sl
      have hp1 : w.heap.size < w1.heap.size := Nat.lt_of_lt_of_le (by simp) hb1.size
      have c0 : w2.cell? ⟨w.heap.size, 0, none⟩ = some (.int .i64 q0) := (hb2.cell (p := ⟨w.heap.size, 0, none⟩) hp1).trans ((hb1.cell (p := ⟨w.heap.size, 0, none⟩) (by simp)).trans (by simp))
      have c1 : w2.cell? ⟨w.heap.size, 1, none⟩ = some (.int .i64 q1) := (hb2.cell (p := ⟨w.heap.size, 1, none⟩) hp1).trans ((hb1.cell (p := ⟨w.heap.size, 1, none⟩) (by simp)).trans (by simp))
      go_wp2_with (go_at_call 12; refine (hkey _).mono ?_; rintro e w' ⟨rfl, rfl⟩)
      go_at_call 18
      refine (hwait _ _ hsl).mono ?_
      rintro e w3 ⟨rfl, hb3⟩
      go_wp2_with fail
      go_at_call 15
      refine (hl0 _ _ (hsl.below hb3)).mono ?_
      rintro e w4 ⟨rfl, hb4⟩
      go_wp2_with fail
      go_at_call 15
      refine (hl1 _ _ ((hsl.below hb3).below hb4)).mono ?_
      rintro e w5 ⟨rfl, hb5⟩
      go_wp2_with fail
      go_at_call 15
      refine (hl2' _ _ (((hsl.below hb3).below hb4).below hb5)).mono ?_
      rintro e w6 ⟨rfl, hb6⟩
      go_wp2_with fail
      go_ret
      exact ⟨rfl, below_seq (below_seq (below_seq (below_seq (below_seq (below_box2 hb1) hb2) hb3) hb4) hb5) hb6⟩
end Waits
end Go.Proofs.Ytpfogfglkknmoaa
