/- RetryWithin: the walk of the law. -/
import Derived.Test.YtphpfabhdngboaaWithc
import Derived.Test.YtphpfabhdngboaaLaw
namespace Go.Proofs.Ytphpfabhdngboaa
open Go.RowKit
namespace Within

theorem and_mask (x : Int) (m : Nat) (hm : m < 9223372036854775808) : 0 ≤ bits .and .i64 x (m : Int) ∧ bits .and .i64 x (m : Int) ≤ m := by
  have hx : (BitVec.ofInt 64 x &&& BitVec.ofInt 64 (m : Int)).toNat ≤ m := by
    rw [BitVec.toNat_and, BitVec.ofInt_natCast, BitVec.toNat_ofNat, Nat.mod_eq_of_lt (show m < 2 ^ 64 by omega)]
    exact Nat.and_le_right
  show 0 ≤ IntKind.i64.wrap ((BitVec.ofInt 64 x &&& BitVec.ofInt 64 (m : Int)).toNat : Int) ∧ IntKind.i64.wrap ((BitVec.ofInt 64 x &&& BitVec.ofInt 64 (m : Int)).toNat : Int) ≤ m
  rw [IntKind.wrap_i64]
  omega

/-- by when the attempt behind k failed ones is due, at the latest -/
def bnd (k e : Int) : Int := if k < 1 then 0 else upv k + (k - 1) * (e - 1)

/-- what holds at the head of each round: begun at b, k attempts failed, the next one due at d, the clock at m, i rounds gone -/
structure At (b n e d m k i : Int) : Prop where
  k0 : 0 ≤ k
  kn : k ≤ n
  i0 : 0 ≤ i
  im : i ≤ m - b
  md : m ≤ d + e - 1
  db : d ≤ b + bnd k e
  first : k = 0 → m = b ∧ d = b
theorem bnd_le (k e : Int) (h0 : 0 ≤ k) (h7 : k ≤ 7) (h1 : 1 ≤ e) (h16 : e ≤ 16) : bnd k e ≤ 217 := by
  rcases (show k = 0 ∨ k = 1 ∨ k = 2 ∨ k = 3 ∨ k = 4 ∨ k = 5 ∨ k = 6 ∨ k = 7 by omega) with rfl | rfl | rfl | rfl | rfl | rfl | rfl | rfl <;> (unfold bnd upv; omega)
theorem bnd_within (k e : Int) (h0 : 0 ≤ k) (h7 : k ≤ 7) (h1 : 1 ≤ e) (h16 : e ≤ 16) : bnd k e + (if k < 1 then 0 else e - 1) = withinv k e := by
  have hs : ∀ t : Int, 1 ≤ t → t ≤ 7 → sumv 1 t = upv t := by
    intro t h1 h2
    rw [sumv_some 1 t (by omega), show min t 1000000 = t from by omega, show max 1 1 - 1 = (0 : Int) from by omega, upv_zero]; omega
  unfold withinv
  by_cases h : k < 1
  · obtain rfl : k = 0 := by omega
    rfl
  · rw [if_neg h, hs k (by omega) h7, show min (max e 1) 1000000 = e from by omega]
    rcases (show k = 1 ∨ k = 2 ∨ k = 3 ∨ k = 4 ∨ k = 5 ∨ k = 6 ∨ k = 7 by omega) with rfl | rfl | rfl | rfl | rfl | rfl | rfl <;> (unfold bnd upv; omega)
theorem bnd_succ (k e : Int) (h0 : 0 ≤ k) (h7 : k ≤ 6) : bnd k e + (if k < 1 then 0 else e - 1) + dl (k + 1) = bnd (k + 1) e := by
  rcases (show k = 0 ∨ k = 1 ∨ k = 2 ∨ k = 3 ∨ k = 4 ∨ k = 5 ∨ k = 6 by omega) with rfl | rfl | rfl | rfl | rfl | rfl | rfl <;> (unfold bnd upv dl; omega)

section
variable {b n e d m k i : Int} (h : At b n e d m k i) (hn : n ≤ 7) (h1 : 1 ≤ e) (h16 : e ≤ 16)
include h hn h1 h16
theorem At.bounds : m - b ≤ 232 ∧ i ≤ 232 ∧ d ≤ b + 217 := by
  have := bnd_le k e h.k0 (by have := h.kn; omega) h1 h16
  have := h.md; have := h.db; have := h.im
  omega
omit hn in
theorem At.skip (hlt : m < d) : At b n e d (m + e) k (i + 1) :=
  ⟨h.k0, h.kn, by have := h.i0; omega, by have := h.im; omega, by omega, h.db, fun hk => by have := h.first hk; omega⟩
theorem At.fail (_ : d ≤ m) (hk : k < n) : At b n e (m + dl (k + 1)) (m + e) (k + 1) (i + 1) := by
  have hs := bnd_succ k e h.k0 (by omega)
  have hk0 := h.k0
  have hd : 1 ≤ dl (k + 1) := by unfold dl; omega
  refine ⟨by omega, by omega, by have := h.i0; omega, by have := h.im; omega, by omega, ?_, fun hk => by omega⟩
  have := h.md; have := h.db
  by_cases h0 : k < 1
  · have := h.first (by omega)
    rw [if_pos h0] at hs
    rw [← hs]
    have : bnd k e = 0 := if_pos h0
    omega
  · rw [if_neg h0] at hs
    omega
theorem At.done (_ : d ≤ m) (hk : ¬ k < n) : m - b ≤ withinv n e := by
  obtain rfl : k = n := by have := h.kn; omega
  have hw := bnd_within k e h.k0 hn h1 h16
  have := h.md; have := h.db
  by_cases h0 : k < 1
  · have := h.first (by have := h.k0; omega)
    rw [if_pos h0] at hw
    have : bnd k e = 0 := if_pos h0
    omega
  · rw [if_neg h0] at hw
    omega
end

theorem nextv_is (m k : Int) (h0 : 0 ≤ m) (h1 : m ≤ 100000) : nextv m k = m + dl k := by
  have := dl_bd k
  unfold nextv clockv
  omega

set_option maxHeartbeats 4000000 in
theorem walk (times : Int) (_ : (Lit.int .i64 times).wf = true) (each : Int) (_ : (Lit.int .i64 each).wf = true) (first : Int) (_ : (Lit.int .i64 first).wf = true) (w : World) :
    Calls Try.prog 6 #[.int .i64 times, .int .i64 each, .int .i64 first] w fun e w' => e = .returned (.bool true) ∧ Below w.heap.size w w' := by
  obtain ⟨r, hr⟩ : ∃ r, times.tmod 8 = r := ⟨_, rfl⟩
  have hr1 : -8 < r ∧ r < 8 := by rw [← hr]; have := Int.tmod_lt_of_pos times (show (0 : Int) < 8 by omega); have := Int.lt_tmod_of_pos times (show (0 : Int) < 8 by omega); omega
  obtain ⟨E, hE⟩ : ∃ E, bits .and .i64 each 15 = E := ⟨_, rfl⟩
  have hE1 : 0 ≤ E ∧ E ≤ 15 := by rw [← hE]; exact and_mask each 15 (by omega)
  obtain ⟨b, hb⟩ : ∃ b, bits .and .i64 first 255 = b := ⟨_, rfl⟩
  have hb1 : 0 ≤ b ∧ b ≤ 255 := by rw [← hb]; exact and_mask first 255 (by omega)
  go_enter Try.func6, Try.ntmps6
  go_wp2_with (first | (go_at_call 8; refine (awake_any _).mono ?_; rintro e w1 ⟨rfl, hw1⟩))
  have hn1 : 0 ≤ (r + 8) % 8 ∧ (r + 8) % 8 ≤ 7 := by omega
  generalize (r + 8) % 8 = n at hn1 ⊢
  have he1 : 1 ≤ 1 + E ∧ 1 + E ≤ 16 := by omega
  generalize 1 + E = e at he1 ⊢
  clear hE hr hb hE1 hr1
  go_loop [11, 12, 13, 14] (fun vd vm vk vi => ∃ d m k i : Int, Hid (At b n e d m k i) ∧ vd = .int .i64 d ∧ vm = .int .i64 m ∧ vk = .int .i64 k ∧ vi = .int .i64 i) (fun _ _ _ vi => (400 - intOf vi).toNat)
  case atStart => exact ⟨b, b, 0, 0, ⟨by omega, by omega, by omega, by omega, by omega, by unfold bnd; omega, fun _ => ⟨rfl, rfl⟩⟩, rfl, rfl, rfl, rfl⟩
  case round =>
    obtain ⟨d, m, k, i, H, rfl, rfl, rfl, rfl⟩ := hrel
    have hbd := H.out.bounds hn1.2 he1.1 he1.2
    have hk0 := H.out.k0
    have hkn := H.out.kn
    have hi0 := H.out.i0
    have him := H.out.im
    by_cases hge : d ≤ m
    · by_cases hk : k < n
      · have hnx := nextv_is m (k + 1) (by omega) (by omega)
        have hdl := dl_bd (k + 1)
        go_wp2_with (go_at_call 12; refine (next_any _ _ _ (by omega) (by omega)).mono ?_; rintro e w' ⟨rfl, rfl⟩)
        go_round
        case rel => exact ⟨_, _, _, _, H.out.fail hn1.2 he1.1 he1.2 hge hk, rfl, rfl, rfl, rfl⟩
        case measure => simp [intOf]; omega
      · have hdone := H.out.done hn1.2 he1.1 he1.2 hge hk
        obtain rfl : k = n := by omega
        go_wp2_with (go_at_call 14; refine (within_any _ _ _ (by omega)).mono ?_; rintro e w' ⟨rfl, hb'⟩)
        go_ret
        exact ⟨rfl, hw1.trans (hb'.mono hw1.size)⟩
    · go_wp2_with fail
      go_round
      case rel => exact ⟨_, _, _, _, H.out.skip he1.1 he1.2 (by omega), rfl, rfl, rfl, rfl⟩
      case measure => simp [intOf]; omega
end Within
end Go.Proofs.Ytphpfabhdngboaa
