/- The contracts of the document's answer for the layer retry. -/
import Derived.Test.YtphpfabhdngboaaWithc
namespace Go.Proofs.Ytphpfabhdngboaa
open Go.RowKit

theorem dl_double (i : Int) (h : 1 ≤ i) (h6 : dl i < 64) : dl (i + 1) = 2 * dl i ∧ i ≤ 6 := by unfold dl at *; omega

set_option maxHeartbeats 1000000 in
theorem rdelay_any (n : Int) (w : World) (h1 : -9223372036854775808 ≤ n) (h2 : n ≤ 9223372036854775807) :
    Calls Try.prog 15 #[.int .i64 n] w fun e w' => e = .returned (.int .i64 (dl n)) ∧ w = w' := by
  by_cases h : n < 1
  · rw [show dl n = 0 from by unfold dl; omega]
    go_enter Try.func15, Try.ntmps15
    go_wp2
    go_ret
    exact ⟨rfl, rfl⟩
  · go_enter Try.func15, Try.ntmps15
    go_wp2
    go_loop [3, 4] (fun vn vi => ∃ i : Int, 1 ≤ i ∧ i ≤ 7 ∧ i ≤ n ∧ vn = .int .i64 (dl i) ∧ vi = .int .i64 i) (fun _ vi => (8 - intOf vi).toNat)
    case atStart => exact ⟨1, by omega, by omega, by omega, rfl, rfl⟩
    case round =>
      obtain ⟨i, hi1, hi7, hin, rfl, rfl⟩ := hrel
      have hd := dl_bd i
      by_cases hlt : i < n
      · by_cases h64 : dl i < 64
        · have hdb := dl_double i hi1 h64
          have H := Lib.hid hdb.1
          have h6 := hdb.2
          clear hdb
          go_wp2
          go_round
          case rel => exact ⟨i + 1, by omega, by omega, by omega, by rw [H.out], rfl⟩
          case measure => simp [intOf]; omega
        · have he : dl i = dl n := by unfold dl at *; omega
          have H := Lib.hid he
          clear he
          go_wp2
          go_ret
          exact ⟨ret_int H.out, rfl⟩
      · obtain rfl : i = n := by omega
        go_wp2
        go_ret
        exact ⟨rfl, rfl⟩

set_option maxHeartbeats 1000000 in
theorem rclock_any (now t : Int) (w : World) (h0 : 0 ≤ t) (h1 : t ≤ 64) :
    Calls Try.prog 21 #[.int .i64 now, .int .i64 t] w fun e w' => e = .returned (.int .i64 (clockv now t)) ∧ w = w' := by
  by_cases hn : now < 0
  · rw [show clockv now t = 0 from by unfold clockv; omega]
    go_enter Try.func21, Try.ntmps21
    go_wp2
    go_ret
    exact ⟨rfl, rfl⟩
  · by_cases hM : 1099511627776 - t < now
    · rw [show clockv now t = 1099511627776 from by unfold clockv; omega]
      go_enter Try.func21, Try.ntmps21
      go_wp2
      go_ret
      exact ⟨rfl, rfl⟩
    · rw [show clockv now t = now + t from by unfold clockv; omega]
      go_enter Try.func21, Try.ntmps21
      go_wp2
      go_ret
      exact ⟨rfl, rfl⟩

theorem rnext_any (now n : Int) (w : World) (h1 : -9223372036854775808 ≤ n) (h2 : n ≤ 9223372036854775807) :
    Calls Try.prog 16 #[.int .i64 now, .int .i64 n] w fun e w' => e = .returned (.int .i64 (nextv now n)) ∧ w = w' := by
  have hd := dl_bd n
  unfold nextv
  go_enter Try.func16, Try.ntmps16
  go_wp2_with (first | (go_at_call 15; refine (rdelay_any _ _ (by omega) (by omega)).mono ?_; rintro e w' ⟨rfl, rfl⟩) | (go_at_call 21; refine (rclock_any _ _ _ (by omega) (by omega)).mono ?_; rintro e w' ⟨rfl, rfl⟩))
  go_ret
  exact ⟨rfl, rfl⟩

theorem sum_end (F T i s : Int) (h1 : F ≤ i) (h2 : i = F ∨ i ≤ T + 1) (h3 : s = upv (i - 1) - upv (F - 1)) (hT : T < i) (h : F ≤ T ∨ i = F) (hF : 1 ≤ F) (hT6 : T ≤ 1000000) : s = sumv F T ∧ min T 1000000 = T ∧ max F 1 = F := by
  refine ⟨?_, by omega, by omega⟩
  by_cases hft : F ≤ T
  · rw [sumv_some F T (by omega), show min T 1000000 = T from by omega, show max F 1 = F from by omega, h3]
    obtain rfl : i = T + 1 := by omega
    rw [show T + 1 - 1 = T from by omega]
  · rw [sumv_none F T (by omega), h3]
    obtain rfl : i = F := by omega
    omega
theorem upv_step (i F s : Int) (h : 1 ≤ i) (hs : s = upv (i - 1) - upv (F - 1)) : s + dl i = upv (i + 1 - 1) - upv (F - 1) := by
  have := upv_succ (i - 1) (by omega)
  rw [show i - 1 + 1 = i from by omega] at this
  rw [show i + 1 - 1 = i from by omega]
  omega

set_option maxHeartbeats 2000000 in
theorem rsum_any (f t : Int) (w : World) (hf1 : -9223372036854775808 ≤ f) (hf2 : f ≤ 9223372036854775807) :
    Calls Try.prog 17 #[.int .i64 f, .int .i64 t] w fun e w' => e = .returned (.int .i64 (sumv f t)) ∧ w = w' := by
  obtain ⟨F, hF⟩ : ∃ F, F = max f 1 := ⟨_, rfl⟩
  obtain ⟨T, hT⟩ : ∃ T, T = min t 1000000 := ⟨_, rfl⟩
  have hsum : sumv f t = sumv F T := by
    unfold sumv
    rw [show min T 1000000 = min t 1000000 from by omega, show max F 1 = max f 1 from by omega]
  rw [hsum]
  have hF1 : 1 ≤ F := by omega
  have hF2 : F ≤ 9223372036854775807 := by omega
  have hT6 : T ≤ 1000000 := by omega
  clear hsum
  rcases (show (f < 1 ∧ F = 1) ∨ (¬ f < 1 ∧ f = F) from by omega) with ⟨hc, rfl⟩ | ⟨hc, rfl⟩ <;> rcases (show (1000000 < t ∧ T = 1000000) ∨ (¬ 1000000 < t ∧ t = T) from by omega) with ⟨hd, rfl⟩ | ⟨hd, rfl⟩
  all_goals
    clear hF hT
    go_enter Try.func17, Try.ntmps17
    go_wp2
  · have hz : (0 : Int) = upv (1 - 1) - upv (1 - 1) := by omega
    go_loop [5, 6] (fun vs vi => ∃ i s : Int, 1 ≤ i ∧ (i = 1 ∨ i ≤ 1000000 + 1) ∧ Hid (s = upv (i - 1) - upv (1 - 1)) ∧ vs = .int .i64 s ∧ vi = .int .i64 i) (fun _ vi => (1000000 + 1 - intOf vi).toNat)
    case atStart => exact ⟨1, 0, by omega, by omega, hz, rfl, rfl⟩
    case round =>
      obtain ⟨i, s, hi, hi2, hs, rfl, rfl⟩ := hrel
      have HI : Hid (i = 1 ∨ i ≤ 1000000 + 1) := hi2
      clear hi2 hz
      have hb1 := upv_mono (1 - 1) (i - 1) (by omega)
      by_cases hlt : i ≤ 1000000
      · have hb2 := upv_bd (i - 1) (by omega)
        have hb3 := upv_bd (1 - 1) (by omega)
        have hs0 : 0 ≤ s ∧ s ≤ 64000000 := by have := hs.out; omega
        have hd := dl_bd i
        clear hb1 hb2 hb3
        go_wp2_with (go_at_call 15; refine (rdelay_any _ _ (by omega) (by omega)).mono ?_; rintro e w' ⟨rfl, rfl⟩)
        go_round
        case rel => exact ⟨i + 1, s + dl i, by omega, by omega, upv_step i 1 s (by omega) hs.out, rfl, rfl⟩
        case measure => simp [intOf]; omega
      · have hend := sum_end 1 1000000 i s hi HI.out hs.out (by omega) (by have := HI.out; omega) (by omega) (by omega)
        have H := Lib.hid hend.1
        clear hend hb1
        go_wp2
        go_ret
        exact ⟨ret_int H.out, rfl⟩
  · have hz : (0 : Int) = upv (1 - 1) - upv (1 - 1) := by omega
    go_loop [5, 6] (fun vs vi => ∃ i s : Int, 1 ≤ i ∧ (i = 1 ∨ i ≤ t + 1) ∧ Hid (s = upv (i - 1) - upv (1 - 1)) ∧ vs = .int .i64 s ∧ vi = .int .i64 i) (fun _ vi => (t + 1 - intOf vi).toNat)
    case atStart => exact ⟨1, 0, by omega, by omega, hz, rfl, rfl⟩
    case round =>
      obtain ⟨i, s, hi, hi2, hs, rfl, rfl⟩ := hrel
      have HI : Hid (i = 1 ∨ i ≤ t + 1) := hi2
      clear hi2 hz
      have hb1 := upv_mono (1 - 1) (i - 1) (by omega)
      by_cases hlt : i ≤ t
      · have hb2 := upv_bd (i - 1) (by omega)
        have hb3 := upv_bd (1 - 1) (by omega)
        have hs0 : 0 ≤ s ∧ s ≤ 64000000 := by have := hs.out; omega
        have hd := dl_bd i
        clear hb1 hb2 hb3
        go_wp2_with (go_at_call 15; refine (rdelay_any _ _ (by omega) (by omega)).mono ?_; rintro e w' ⟨rfl, rfl⟩)
        go_round
        case rel => exact ⟨i + 1, s + dl i, by omega, by omega, upv_step i 1 s (by omega) hs.out, rfl, rfl⟩
        case measure => simp [intOf]; omega
      · have hend := sum_end 1 t i s hi HI.out hs.out (by omega) (by have := HI.out; omega) (by omega) (by omega)
        have H := Lib.hid hend.1
        clear hend hb1
        go_wp2
        go_ret
        exact ⟨ret_int H.out, rfl⟩
  · have hz : (0 : Int) = upv (f - 1) - upv (f - 1) := by omega
    go_loop [5, 6] (fun vs vi => ∃ i s : Int, f ≤ i ∧ (i = f ∨ i ≤ 1000000 + 1) ∧ Hid (s = upv (i - 1) - upv (f - 1)) ∧ vs = .int .i64 s ∧ vi = .int .i64 i) (fun _ vi => (1000000 + 1 - intOf vi).toNat)
    case atStart => exact ⟨f, 0, by omega, by omega, hz, rfl, rfl⟩
    case round =>
      obtain ⟨i, s, hi, hi2, hs, rfl, rfl⟩ := hrel
      have HI : Hid (i = f ∨ i ≤ 1000000 + 1) := hi2
      clear hi2 hz
      have hb1 := upv_mono (f - 1) (i - 1) (by omega)
      by_cases hlt : i ≤ 1000000
      · have hb2 := upv_bd (i - 1) (by omega)
        have hb3 := upv_bd (f - 1) (by omega)
        have hs0 : 0 ≤ s ∧ s ≤ 64000000 := by have := hs.out; omega
        have hd := dl_bd i
        clear hb1 hb2 hb3
        go_wp2_with (go_at_call 15; refine (rdelay_any _ _ (by omega) (by omega)).mono ?_; rintro e w' ⟨rfl, rfl⟩)
        go_round
        case rel => exact ⟨i + 1, s + dl i, by omega, by omega, upv_step i f s (by omega) hs.out, rfl, rfl⟩
        case measure => simp [intOf]; omega
      · have hend := sum_end f 1000000 i s hi HI.out hs.out (by omega) (by have := HI.out; omega) (by omega) (by omega)
        have H := Lib.hid hend.1
        clear hend hb1
        go_wp2
        go_ret
        exact ⟨ret_int H.out, rfl⟩
  · have hz : (0 : Int) = upv (f - 1) - upv (f - 1) := by omega
    go_loop [5, 6] (fun vs vi => ∃ i s : Int, f ≤ i ∧ (i = f ∨ i ≤ t + 1) ∧ Hid (s = upv (i - 1) - upv (f - 1)) ∧ vs = .int .i64 s ∧ vi = .int .i64 i) (fun _ vi => (t + 1 - intOf vi).toNat)
    case atStart => exact ⟨f, 0, by omega, by omega, hz, rfl, rfl⟩
    case round =>
      obtain ⟨i, s, hi, hi2, hs, rfl, rfl⟩ := hrel
      have HI : Hid (i = f ∨ i ≤ t + 1) := hi2
      clear hi2 hz
      have hb1 := upv_mono (f - 1) (i - 1) (by omega)
      by_cases hlt : i ≤ t
      · have hb2 := upv_bd (i - 1) (by omega)
        have hb3 := upv_bd (f - 1) (by omega)
        have hs0 : 0 ≤ s ∧ s ≤ 64000000 := by have := hs.out; omega
        have hd := dl_bd i
        clear hb1 hb2 hb3
        go_wp2_with (go_at_call 15; refine (rdelay_any _ _ (by omega) (by omega)).mono ?_; rintro e w' ⟨rfl, rfl⟩)
        go_round
        case rel => exact ⟨i + 1, s + dl i, by omega, by omega, upv_step i f s (by omega) hs.out, rfl, rfl⟩
        case measure => simp [intOf]; omega
      · have hend := sum_end f t i s hi HI.out hs.out (by omega) (by have := HI.out; omega) (by omega) (by omega)
        have H := Lib.hid hend.1
        clear hend hb1
        go_wp2
        go_ret
        exact ⟨ret_int H.out, rfl⟩

end Go.Proofs.Ytphpfabhdngboaa
