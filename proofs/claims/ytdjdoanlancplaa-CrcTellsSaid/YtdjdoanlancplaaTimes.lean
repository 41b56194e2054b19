/- The contracts of times, power, Join: registers multiplied as polynomials. -/
import Derived.Test.YtdjdoanlancplaaWord
namespace Go.Proofs.Ytdjdoanlancplaa
open Go.RowKit

/-- what holds at the head of a round of times -/
structure TimesAt (A B : W32) (k : Nat) (b p t : Int) : Prop where
  hk : k ≤ 32
  hb : IsW b (sN k B)
  hp : IsW p (tms A B k)
  ht : t = if k < 32 then ((2 ^ (31 - k) : Nat) : Int) else 0

theorem TimesAt.zero {A B : W32} {b : Int} (h : IsW b B) : TimesAt A B 0 b 0 2147483648 := ⟨by omega, h, rfl, rfl⟩
theorem twoPow_is (j : Nat) (hj : j < 32) : IsW ((2 ^ j : Nat) : Int) (BitVec.twoPow 32 j) := by
  unfold IsW
  rw [BitVec.toNat_twoPow, Nat.mod_eq_of_lt (Nat.pow_lt_pow_right (by omega) hj)]
section
variable {A B : W32} {k : Nat} {a b p t : Int} (h : TimesAt A B k b p t)
include h
theorem TimesAt.bd : 0 ≤ t ∧ t ≤ 2147483648 := by
  rw [h.ht]
  split
  · have : 2 ^ (31 - k) ≤ 2 ^ 31 := Nat.pow_le_pow_right (by omega) (by omega)
    generalize 2 ^ (31 - k) = x at this ⊢
    omega
  · omega
theorem TimesAt.more (hk : k < 32) : (t != 0) = true := by
  rw [h.ht, if_pos hk]
  have : 0 < 2 ^ (31 - k) := Nat.pow_pos (by omega)
  simp only [bne_iff_ne, ne_eq]
  omega
theorem TimesAt.over (hk : ¬ k < 32) : t = 0 ∧ k = 32 := by
  have := h.hk
  rw [h.ht, if_neg hk]; omega
theorem TimesAt.test (hk : k < 32) (ha : IsW a A) : (bits .and .u32 a t != 0) = A.getLsbD (31 - k) := by
  rw [h.ht, if_pos hk]
  exact IsW.bit (by omega) ha (twoPow_is (31 - k) (by omega))
theorem TimesAt.low : bits .and .u32 b 1 = if (sN k B).getLsbD 0 then 1 else 0 := h.hb.low
theorem TimesAt.half (hk : k < 32) : t / 2 = if k + 1 < 32 then ((2 ^ (31 - (k + 1)) : Nat) : Int) else 0 := by
  rw [h.ht, if_pos hk]
  by_cases h1 : k + 1 < 32
  · rw [if_pos h1, show 31 - k = 31 - (k + 1) + 1 from by omega, Nat.pow_succ]; omega
  · rw [if_neg h1, show 31 - k = 0 from by omega]; rfl
theorem TimesAt.step_b : IsW (b / 2) (sN k B >>> 1) := h.hb.shr 1 2 (by decide)
theorem TimesAt.next (hk : k < 32) (hpb : Bool) (hlow : Bool) (e1 : A.getLsbD (31 - k) = hpb) (e2 : (sN k B).getLsbD 0 = hlow) :
    TimesAt A B (k + 1) (if hlow then bits .xor .u32 (b / 2) 3988292384 else b / 2) (if hpb then bits .xor .u32 p b else p) (t / 2) := by
  refine ⟨by omega, ?_, ?_, h.half hk⟩
  · rw [sN_succ]
    unfold s1
    rw [e2]
    cases hlow
    · simpa using h.step_b
    · simpa using h.step_b.xor IsW.poly
  · unfold tms
    rw [e1]
    cases hpb
    · simpa using h.hp
    · simpa using h.hp.xor h.hb
theorem TimesAt.done (hk : ¬ k < 32) : p = wi (tm A B) := by
  have := h.over hk
  have hp := h.hp
  rw [this.2] at hp
  exact hp
end

set_option maxHeartbeats 1000000 in
theorem times_any (A B : W32) (a b : Int) (ha : Hid (IsW a A)) (hb : Hid (IsW b B)) (w : World) :
    Calls Try.prog 22 #[.int .u32 a, .int .u32 b] w fun e w' => e = .returned (.int .u32 (wi (tm A B))) ∧ w = w' := by
  go_enter Try.func22, Try.ntmps22
  go_wp2
  go_loop [1, 5, 6, 7] (fun vb vp vt _ => ∃ (k : Nat) (b p t : Int), Hid (TimesAt A B k b p t) ∧ vb = .int .u32 b ∧ vp = .int .u32 p ∧ vt = .int .u32 t) (fun _ _ vt _ => (intOf vt).toNat)
  case atStart => exact ⟨0, b, 0, 2147483648, TimesAt.zero hb.out, rfl, rfl, rfl⟩
  case round =>
    obtain ⟨k, b, p, t, H, rfl, rfl, rfl⟩ := hrel
    have hbd := H.out.hb.bd
    have htb := H.out.bd
    by_cases hk : k < 32
    · have hm := H.out.more hk
      have htest := H.out.test hk ha.out
      have hlow := H.out.low
      have htp : 1 ≤ t := by
        have : t ≠ 0 := by simpa using hm
        omega
      cases e1 : A.getLsbD (31 - k) <;> cases e2 : (sN k B).getLsbD 0
      all_goals
        have hnext := Lib.hid (H.out.next hk _ _ e1 e2)
        rw [e1] at htest
        rw [e2] at hlow
        simp only [if_true, Bool.false_eq_true, if_false] at hlow hnext
        clear e1 e2
        go_wp2
        go_round
        case rel => exact ⟨k + 1, _, _, _, hnext.out, rfl, rfl, rfl⟩
        case measure => simp [intOf]; omega
    · have hd := Lib.hid (H.out.done hk)
      obtain ⟨rfl, _⟩ := H.out.over hk
      go_wp2
      go_ret
      exact ⟨by rw [← hd.out]; rfl, rfl⟩

theorem and1_i64 (r : Nat) (h : r < 9223372036854775808) : bits .and .i64 (r : Int) 1 = ((r % 2 : Nat) : Int) := by
  have hx : (BitVec.ofInt 64 (r : Int) &&& BitVec.ofInt 64 1).toNat = r % 2 := by
    rw [BitVec.toNat_and, BitVec.ofInt_natCast, BitVec.toNat_ofNat, Nat.mod_eq_of_lt (show r < 2 ^ 64 by omega)]
    exact Nat.and_two_pow_sub_one_eq_mod r 1
  show IntKind.i64.wrap ((BitVec.ofInt 64 (r : Int) &&& BitVec.ofInt 64 1).toNat : Int) = _
  rw [hx, IntKind.wrap_i64]
  omega

/-- what holds at the head of a round of power: N bytes asked for, r of them left of a place -/
structure PowAt (N r : Nat) (p x : Int) : Prop where
  is : ∃ c d : Nat, c + d * r = 8 * N ∧ IsW p (sN c one) ∧ IsW x (sN d one)
  rN : r ≤ N
theorem PowAt.zero (N : Nat) : PowAt N N 2147483648 8388608 := ⟨⟨0, 8, by omega, rfl, by rw [← x8]; rfl⟩, Nat.le_refl _⟩
theorem PowAt.done {N : Nat} {p x : Int} (h : PowAt N 0 p x) : p = wi (sN (8 * N) one) := by
  obtain ⟨c, d, e, hp, _⟩ := h.is
  rw [← e, Nat.mul_zero, Nat.add_zero]
  exact hp
theorem half_even (c d r : Nat) (h : r % 2 = 0) : c + (d + d) * (r / 2) = c + d * r := by
  obtain ⟨q, rfl⟩ : ∃ q, r = 2 * q := ⟨r / 2, by omega⟩
  rw [Nat.mul_div_cancel_left q (by omega), ← Nat.two_mul, Nat.mul_assoc, Nat.mul_left_comm]
theorem half_odd (c d r : Nat) (h : r % 2 = 1) : (c + d) + (d + d) * (r / 2) = c + d * r := by
  obtain ⟨q, rfl⟩ : ∃ q, r = 2 * q + 1 := ⟨r / 2, by omega⟩
  rw [show (2 * q + 1) / 2 = q from by omega, Nat.mul_add, Nat.mul_one, ← Nat.two_mul, Nat.mul_assoc, Nat.mul_left_comm]
  omega
/-- the two factors as words, for the calls -/
theorem PowAt.words {N r : Nat} {p x : Int} (h : PowAt N r p x) : ∃ P X : W32, IsW p P ∧ IsW x X ∧ (r % 2 = 0 → PowAt N (r / 2) p (wi (tm X X))) ∧ (r % 2 = 1 → PowAt N (r / 2) (wi (tm P X)) (wi (tm X X))) := by
  have hr := h.rN
  obtain ⟨c, d, e, hp, hx⟩ := h.is
  refine ⟨_, _, hp, hx, ?_, ?_⟩
  · intro h0
    exact ⟨⟨c, d + d, by rw [half_even c d r h0, e], hp, by rw [tm_pow_pow]; rfl⟩, by omega⟩
  · intro h1
    exact ⟨⟨c + d, d + d, by rw [half_odd c d r h1, e], by rw [tm_pow_pow]; rfl, by rw [tm_pow_pow]; rfl⟩, by omega⟩

set_option maxHeartbeats 1000000 in
theorem power_nat (N : Nat) (hN : N ≤ 1000000) (w : World) :
    Calls Try.prog 23 #[.int .i64 (N : Int)] w fun e w' => e = .returned (.int .u32 (wi (sN (8 * N) one))) ∧ w = w' := by
  go_enter Try.func23, Try.ntmps23
  go_wp2
  go_loop [0, 3, 4] (fun vn vp vx => ∃ (r : Nat) (p x : Int), Hid (PowAt N r p x) ∧ vn = .int .i64 (r : Int) ∧ vp = .int .u32 p ∧ vx = .int .u32 x) (fun vn _ _ => (intOf vn).toNat)
  case atStart => exact ⟨N, 2147483648, 8388608, PowAt.zero N, rfl, rfl, rfl⟩
  case round =>
    obtain ⟨r, p, x, H, rfl, rfl, rfl⟩ := hrel
    have hr := H.out.rN
    by_cases hr0 : 0 < r
    · obtain ⟨P, X, hP, hX, h0, h1⟩ := H.out.words
      have HP := Lib.hid hP
      have HX := Lib.hid hX
      have H0 := Lib.hid h0
      have H1 := Lib.hid h1
      have hand := and1_i64 r (by omega)
      clear hP hX h0 h1
      rcases Nat.mod_two_eq_zero_or_one r with h | h
      · rw [h] at hand
        have HR := Lib.hid h
        clear h
        go_wp2_with (go_at_call 22; refine (times_any X X _ _ HX HX _).mono ?_; rintro e w' ⟨rfl, rfl⟩)
        go_round
        case rel => exact ⟨r / 2, _, _, H0.out HR.out, by go_num, rfl, rfl⟩
        case measure => simp [intOf]; omega
      · rw [h] at hand
        have HR := Lib.hid h
        clear h
        go_wp2_with fail
        refine (times_any P X _ _ HP HX _).mono ?_
        rintro e w' ⟨rfl, rfl⟩
        go_wp2_with fail
        refine (times_any X X _ _ HX HX _).mono ?_
        rintro e w' ⟨rfl, rfl⟩
        go_wp2_with fail
        go_round
        case rel => exact ⟨r / 2, _, _, H1.out HR.out, by go_num, rfl, rfl⟩
        case measure => simp [intOf]; omega
    · obtain rfl : r = 0 := by omega
      have hd := Lib.hid H.out.done
      go_wp2
      go_ret
      exact ⟨by rw [← hd.out]; rfl, rfl⟩

theorem power_any (n : Int) (hn : n ≤ 1000000) (w : World) :
    Calls Try.prog 23 #[.int .i64 n] w fun e w' => e = .returned (.int .u32 (wi (sN (8 * n.toNat) one))) ∧ w = w' := by
  by_cases h : n < 0
  · have e : wi (sN (8 * n.toNat) one) = 2147483648 := by rw [show n.toNat = 0 from by omega]; rfl
    have hx : ¬ 0 < n := by omega
    rw [e]
    go_enter Try.func23, Try.ntmps23
    go_wp2
    refine wp_loop_rounds 1 ?_; rw [rounds_succ]
    go_wp2
    go_ret
    exact ⟨rfl, rfl⟩
  · obtain ⟨N, rfl⟩ := Int.eq_ofNat_of_zero_le (show 0 ≤ n from by omega)
    rw [Int.toNat_natCast]
    exact power_nat N (by omega) w

theorem join_is (A B : W32) (n : Int) (b : Int) (hb : IsW b B) : bits .xor .u32 (wi (tm (sN (8 * n.toNat) one) A)) b = wi (join A B n.toNat) := by
  have h := (wi_is (tm (sN (8 * n.toNat) one) A)).xor hb
  rw [h.eq, tm_pow]
  rfl

set_option maxHeartbeats 1000000 in
theorem join_any (A B : W32) (a b n : Int) (ha : Hid (IsW a A)) (hb : Hid (IsW b B)) (hn : n ≤ 1000000) (w : World) :
    Calls Try.prog 14 #[.int .u32 a, .int .u32 b, .int .i64 n] w fun e w' => e = .returned (.int .u32 (wi (join A B n.toNat))) ∧ w = w' := by
  have hj := Lib.hid (join_is A B n b hb.out)
  have hp := Lib.hid (wi_is (sN (8 * n.toNat) one))
  go_enter Try.func14, Try.ntmps14
  go_wp2_with fail
  refine (power_any n hn _).mono ?_
  rintro e w' ⟨rfl, rfl⟩
  go_wp2_with fail
  refine (times_any _ A _ _ hp ha _).mono ?_
  rintro e w' ⟨rfl, rfl⟩
  go_wp2_with fail
  go_ret
  exact ⟨by rw [← hj.out]; rfl, rfl⟩

end Go.Proofs.Ytdjdoanlancplaa
