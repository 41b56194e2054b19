/- RetryTries: the walk of the law. -/
import Derived.Test.YtphpfabhdngboaaTryc
import Derived.Lib.Hide
namespace Go.Proofs.Ytphpfabhdngboaa
open Go.RowKit
namespace Tries

theorem triesv_hi (t : Int) (h : 127 ≤ t) : triesv t = 8 := by unfold triesv; omega
theorem triesv_lo (t : Int) (h : t < 0) : triesv t = 0 := by unfold triesv; omega

set_option maxHeartbeats 2000000 in
theorem walk (ticks : Int) (_ : (Lit.int .i64 ticks).wf = true) (raw : Int) (_ : (Lit.int .i64 raw).wf = true) (w : World) :
    Calls Try.prog 4 #[.int .i64 ticks, .int .i64 raw] w fun e w' => e = .returned (.bool true) ∧ Below w.heap.size w w' := by
  obtain ⟨r, hr⟩ : ∃ r, ticks.tmod 301 = r := ⟨_, rfl⟩
  have hr1 : -301 < r ∧ r < 301 := by rw [← hr]; have := Int.tmod_lt_of_pos ticks (show (0 : Int) < 301 by omega); have := Int.lt_tmod_of_pos ticks (show (0 : Int) < 301 by omega); omega
  go_enter Try.func4, Try.ntmps4
  go_wp2_with (first | (go_at_call 8; refine (awake_any _).mono ?_; rintro e w1 ⟨rfl, hb1⟩))
  have hT1 : 0 ≤ (r + 301) % 301 ∧ (r + 301) % 301 ≤ 300 := by omega
  generalize (r + 301) % 301 = T at hT1 ⊢
  go_loopw [7, 8, 9] (fun n d i wr => ∃ (m : Nat) (k : Int), (m : Int) ≤ T + 1 ∧ 0 ≤ k ∧ k ≤ 8 ∧ k = triesv ((m : Int) - 1) ∧ n = .int .i64 k ∧ d = .int .i64 (upv k) ∧ i = .int .i64 m ∧ Below w.heap.size w wr) (fun _ _ i _ => 302 - (intOf i).toNat)
  case atStart => exact ⟨0, 0, by omega, by omega, by omega, rfl, rfl, rfl, rfl, hb1⟩
  case round =>
    obtain ⟨m, k, hm, hk0, hk8, hk, rfl, rfl, rfl, hb⟩ := hrel
    have hst := tries_step m k (by omega) hk
    have hdl := upv_dl m k (by omega) hk
    have HK := Lib.hid hk
    have HS := Lib.hid hst
    have HD := Lib.hid hdl
    clear hk hst hdl hb1
    have hu := upv_bd k (by omega)
    have hd := dl_bd (k + 1)
    by_cases hmt : (m : Int) ≤ T
    · by_cases h1 : upv k ≤ m
      · by_cases h2 : k < 8
        · go_wp2_with (go_at_call 10; refine (delay_any _ _ (by omega) (by omega)).mono ?_; rintro e w' ⟨rfl, rfl⟩)
          go_roundw
          case rel =>
            refine ⟨m + 1, k + 1, by omega, by omega, by omega, ?_, rfl, ?_, by go_num, hb⟩
            · rw [show ((m + 1 : Nat) : Int) - 1 = m from by omega]; exact (HS.out.1 ⟨h1, h2⟩).symm
            · rw [← HD.out h1 h2]
          case measure => simp [intOf]; omega
        · go_wp2_with fail
          go_roundw
          case rel =>
            refine ⟨m + 1, k, by omega, by omega, by omega, ?_, rfl, rfl, by go_num, hb⟩
            rw [show ((m + 1 : Nat) : Int) - 1 = m from by omega]; exact (HS.out.2 (fun h => h2 h.2)).symm
          case measure => simp [intOf]; omega
      · go_wp2_with fail
        go_roundw
        case rel =>
          refine ⟨m + 1, k, by omega, by omega, by omega, ?_, rfl, rfl, by go_num, hb⟩
          rw [show ((m + 1 : Nat) : Int) - 1 = m from by omega]; exact (HS.out.2 (fun h => h1 h.1)).symm
        case measure => simp [intOf]; omega
    · have he : triesv (T) = k := by rw [HK.out]; congr 1; omega
      have e1 : (triesv (T) == k) = true := by rw [he]; simp
      clear he
      by_cases c1 : raw < 127
      · by_cases c2 : 0 ≤ raw
        · go_wp2_with (go_at_call 11; refine (tries_any _ _).mono ?_; rintro e w' ⟨rfl, hb'⟩)
          go_ret
          exact ⟨rfl, hb.trans (hb'.mono hb.size)⟩
        · have e2 : (triesv raw == 0) = true := by rw [triesv_lo raw (by omega)]; rfl
          go_wp2_with (go_at_call 11; refine (tries_any _ _).mono ?_; rintro e w' ⟨rfl, hb'⟩)
          go_ret
          exact ⟨rfl, by repeat (first | exact hb | refine below_seq ?_ (by assumption))⟩
      · have e2 : (triesv raw == 8) = true := by rw [triesv_hi raw (by omega)]; rfl
        go_wp2_with (go_at_call 11; refine (tries_any _ _).mono ?_; rintro e w' ⟨rfl, hb'⟩)
        go_ret
        exact ⟨rfl, by repeat (first | exact hb | refine below_seq ?_ (by assumption))⟩
end Tries
end Go.Proofs.Ytphpfabhdngboaa
