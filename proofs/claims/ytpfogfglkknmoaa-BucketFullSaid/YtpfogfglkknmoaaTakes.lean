/- Take, whole; the chapter's example; keys; rows by numbers. -/
import Derived.Test.YtpfogfglkknmoaaPut
namespace Go.Proofs.Ytpfogfglkknmoaa
open Go.RowKit

theorem Valid.fit {T : Int} {l : List Bk} (h : Valid T l) (hT : T ≤ 1000000000000) : Fit l := fun b hb => ⟨h.left0 b hb, by have := h.at0 b hb; omega⟩

theorem Take_any {T : Int} (l : List Bk) (hv : Valid T l) (hT : T ≤ 1000000000000) (hlen : l.length ≤ 100) (k : ByteArray) (now : Int) (hn : Time now) (v : Value) (w : World) (hsl : Sl v l w) :
    Calls Try.prog 13 #[v, .string k, .int .i64 now] w fun e w' => ∃ v', e = .returned (.tuple #[v', .int .i64 (takeP l k now).2]) ∧ Below w.heap.size w w' ∧ Made w.heap.size v' (takeP l k now).1 w' := by
  have hf := hv.fit hT
  have hnb := LeftP_bounds hv k now
  rcases takeP_cases l k now with ⟨e, h⟩ | ⟨e, h1, h2, h3⟩ | ⟨e, h1, h2, h3, h4⟩ | ⟨e, h1, h2, h3, h4⟩
  · rw [e]; exact Take_none l hv.sorted hf hlen k now hn v w hsl h
  · rw [e]; exact Take_turn l hv.sorted hf hlen k now hn v w hsl h1 hnb h2 h3
  · rw [e]; exact Take_full l hv.sorted hf hlen k now hn v w hsl h1 h2 (by simpa using h3) h4
  · rw [e]; exact Take_put l hv.sorted hf hlen k now hn v w hsl h1 hnb h2 (by simpa using h3) h4

/-- the chapter's example -/
def kk : ByteArray := ⟨#[107]⟩
def st : Nat → List Bk
  | 0 => []
  | n + 1 => (takeP (st n) kk 0).1
theorem st_valid : ∀ n, Valid 1000 (st n)
  | 0 => ⟨List.Pairwise.nil, fun b hb => absurd hb (by simp [st]), fun b hb => absurd hb (by simp [st]), fun b hb => absurd hb (by simp [st])⟩
  | n + 1 => takeP_valid (st_valid n) kk (by omega) (by omega)
theorem st_len : ∀ n, (st n).length ≤ n
  | 0 => Nat.le_refl _
  | n + 1 => Nat.le_trans (takeP_length_le kk 0) (by have := st_len n; omega)
theorem nil_sl (w : World) : Sl (.slice none 0 0) [] w := ⟨none, 0, rfl, Nat.le_refl _, by unfold maxLen; omega, fun _ => rfl, fun h => absurd rfl h⟩
theorem st_err : (takeP (st 0) kk 0).2 = 0 ∧ (takeP (st 1) kk 0).2 = 0 ∧ (takeP (st 2) kk 0).2 = 0 ∧ (takeP (st 3) kk 0).2 = 0 ∧ (takeP (st 4) kk 24).2 = 22 ∧ (takeP (st 4) kk 25).2 = 0 := by
  decide +kernel
theorem st_ok (k : Nat) (hk : k < 4) : (takeP (st k) kk 0).2 = 0 := by
  match k, hk with
  | 0, _ => exact st_err.1
  | 1, _ => exact st_err.2.1
  | 2, _ => exact st_err.2.2.1
  | 3, _ => exact st_err.2.2.2.1

set_option maxHeartbeats 2000000 in
theorem awake_any (w : World) : Calls Try.prog 10 #[] w fun e w' => e = .returned (.bool true) ∧ Below w.heap.size w w' := by
  go_enter Try.func10, Try.ntmps10
  go_wp2_with fail
  go_loopw [1, 2, 3, 4] (fun v1 v2 _ _ wr => ∃ k : Nat, k ≤ 4 ∧ v2 = .int .i64 (k : Int) ∧ Sl v1 (st k) wr ∧ Below w.heap.size w wr)
    (fun _ v2 _ _ _ => 4 - (intOf v2).toNat)
  case atStart => exact ⟨0, by omega, rfl, nil_sl _, Below.refl _ _⟩
  case round =>
    obtain ⟨k, hk, rfl, hs, hb⟩ := hrel
    by_cases hlt : k < 4
    · have ht := Take_any (st k) (st_valid k) (by omega) (by have := st_len k; omega) kk 0 (by unfold Time; omega) u1 wr hs
      rw [st_ok k hlt] at ht
      have hkz : (k : Int) < 4 := by omega
      unfold kk at ht
      clear hs
      go_wp2_with (go_at_call 13; refine ht.mono ?_; rintro e w1 ⟨v1, rfl, hb1, hm1⟩)
      go_roundw
      case rel => exact ⟨k + 1, by omega, by go_num, hm1.sl, below_seq hb hb1⟩
      case measure => simp [intOf]; omega
    · obtain rfl : k = 4 := by omega
      have ht1 := fun W hW => Take_any (st 4) (st_valid 4) (by omega) (by have := st_len 4; omega) kk 24 (by unfold Time; omega) u1 W hW
      have ht2 := fun W hW => Take_any (st 4) (st_valid 4) (by omega) (by have := st_len 4; omega) kk 25 (by unfold Time; omega) u1 W hW
      rw [st_err.2.2.2.2.1] at ht1
      rw [st_err.2.2.2.2.2] at ht2
      unfold kk at ht1 ht2
      go_wp2_with fail
      go_at_call 13
      refine (ht1 _ hs).mono ?_
      rintro e w1 ⟨v1, rfl, hb1, hm1⟩
      go_wp2_with fail
      go_at_call 13
      refine (ht2 _ (hs.below hb1)).mono ?_
      rintro e w2 ⟨v2, rfl, hb2, hm2⟩
      go_wp2_with fail
      go_ret
      exact ⟨rfl, below_seq (below_seq hb hb1) hb2⟩

/-- a key by a number -/
def keys : ByteArray := ⟨#[97, 98, 99, 100, 101, 102, 103, 104, 105, 106, 107, 108, 109, 110, 111, 112, 113, 114, 115, 116, 117, 118, 119, 120, 121, 122, 48, 49, 50, 51, 52, 53, 54, 55, 56, 57]⟩
def keyP (n : Int) : ByteArray := keys.extract (n % 36).toNat (n % 36 + 1).toNat
theorem keyP_size (n : Int) : (keyP n).size = 1 := by
  unfold keyP
  rw [ByteArray.size_extract]
  have : keys.size = 36 := rfl
  omega
theorem keyP_ne (n : Int) : kl (keyP n) ≠ [] := by
  intro h
  have h1 : (kl (keyP n)).length = 1 := by
    show (keyP n).data.toList.length = 1
    rw [Array.length_toList]
    exact keyP_size n
  rw [h] at h1
  cases h1
theorem key_mod (n : Int) : ((n.tmod 36 + 36).tmod 36) = n % 36 := by
  have h1 := Int.emod_nonneg n (show (36 : Int) ≠ 0 by omega)
  have h2 := Int.emod_lt_of_pos n (show (0 : Int) < 36 by omega)
  have h3 : 0 ≤ n.tmod 36 + 36 := by
    have := Int.tmod_lt_of_pos (-n) (show (0 : Int) < 36 by omega)
    rw [Int.neg_tmod] at this
    omega
  rw [Int.tmod_eq_emod_of_nonneg h3]
  have h4 := Int.mul_tdiv_add_tmod n 36
  omega
set_option maxHeartbeats 2000000 in
theorem key_any (n : Int) (w : World) : Calls Try.prog 12 #[.int .i64 n] w fun e w' => e = .returned (.string (keyP n)) ∧ w = w' := by
  have hm := key_mod n
  have h1 := Int.emod_nonneg n (show (36 : Int) ≠ 0 by omega)
  have h2 := Int.emod_lt_of_pos n (show (0 : Int) < 36 by omega)
  have h3 : -36 < n.tmod 36 := by
    have := Int.tmod_lt_of_pos (-n) (show (0 : Int) < 36 by omega)
    rw [Int.neg_tmod] at this
    omega
  have h4 := Int.tmod_lt_of_pos n (show (0 : Int) < 36 by omega)
  unfold keyP keys
  generalize n % 36 = r at *
  go_enter Try.func12, Try.ntmps12
  go_wp2_with fail
  go_ret
  exact ⟨rfl, rfl⟩
end Go.Proofs.Ytpfogfglkknmoaa
