/- Small contracts: one bucket's wholes and what is left; comparing. -/
import Derived.Test.YtpfogfglkknmoaaRows
import Derived.Test.YtpfogfglkknmoaaPlain
import Derived.WalkKit
import Derived.WalkSpells
import Derived.WalkLawsBesides
import Derived.ProofKit
import Derived.Lib.Hide
import Derived.Lib.Bytealg
import Derived.Deep.RegionHeld3
import Derived.IntWalk
namespace Go.Proofs.Ytpfogfglkknmoaa
open Go.RowKit

theorem below_seq {w w1 w2 : World} (h1 : Below w.heap.size w w1) (h2 : Below w1.heap.size w1 w2) : Below w.heap.size w w2 := h1.trans (h2.mono h1.size)

theorem below_box {w w' : World} {o : Obj} (h : Below (w.alloc o).drew.heap.size (w.alloc o).drew w') : Below w.heap.size w w' :=
  (((Below.refl w.heap.size w).alloc (Nat.le_refl _) o).drew).trans (h.mono (by simp))

/-- a bucket's cells; as a value -/
def Bk.cells (b : Bk) : List Value := [.string b.key, .int .i64 b.left, .int .i64 b.at_]
def Bk.val (b : Bk) : Value := .agg #[.string b.key, .int .i64 b.left, .int .i64 b.at_]
structure Bk.Fits (b : Bk) : Prop where
  left : 0 ≤ b.left ∧ b.left ≤ 3
  at_ : 0 ≤ b.at_ ∧ b.at_ ≤ 1000000000000
def Time (t : Int) : Prop := 0 ≤ t ∧ t ≤ 1000000000000

theorem whole_le (b : Bk) (hb : b.Fits) (now : Int) (hn : Time now) : 0 ≤ whole b now ∧ whole b now * 25 ≤ 1000000000000 := by
  have := hb.at_
  unfold Time at hn
  unfold whole
  omega

set_option maxHeartbeats 1000000 in
theorem whole_any (b : Bk) (hb : b.Fits) (now : Int) (hn : Time now) (w : World) :
    Calls Try.prog 28 #[b.val, .int .i64 now] w fun e w' => e = .returned (.int .i64 (whole b now)) ∧ Below w.heap.size w w' := by
  obtain ⟨k, l, t⟩ := b
  have ht := hb.at_
  simp only at ht
  unfold Time at hn
  unfold Bk.val whole
  simp only
  by_cases h : now - t < 0
  · rw [show max (now - t) 0 = 0 from by omega]
    go_enter Try.func28, Try.ntmps28
    go_wp2
    go_ret
    exact ⟨by first | rfl | (congr 1; done), (Below.refl _ _).alloc (Nat.le_refl _) _⟩
  · rw [show max (now - t) 0 = now - t from by omega]
    go_enter Try.func28, Try.ntmps28
    go_wp2
    go_ret
    exact ⟨by first | rfl | (congr 1; done), (Below.refl _ _).alloc (Nat.le_refl _) _⟩

theorem leftP_bd (b : Bk) (hb : b.Fits) (now : Int) : 0 ≤ leftP b now ∧ leftP b now ≤ 4 := by
  have := hb.left
  have := whole_nonneg b now
  unfold leftP
  omega

set_option maxHeartbeats 1000000 in
theorem left_any (b : Bk) (hb : b.Fits) (now : Int) (hn : Time now) (w : World) :
    Calls Try.prog 32 #[b.val, .int .i64 now] w fun e w' => e = .returned (.int .i64 (leftP b now)) ∧ Below w.heap.size w w' := by
  have hwb := whole_le b hb now hn
  have hl := hb.left
  have hcall : ∀ W : World, Calls Try.prog 28 #[.agg #[.string b.key, .int .i64 b.left, .int .i64 b.at_], .int .i64 now] W fun e w' => e = .returned (.int .i64 (whole b now)) ∧ Below W.heap.size W w' := fun W => whole_any b hb now hn W
  unfold leftP
  obtain ⟨k, l, t⟩ := b
  unfold Bk.val
  simp only at hl hcall ⊢
  generalize whole ⟨k, l, t⟩ now = q at hwb hcall ⊢
  by_cases h : 4 < l + q
  · rw [show min (l + q) 4 = 4 from by omega]
    have hwr : IntKind.i64.wrap (l + q) = l + q := IntWalk.i64_in _ (by omega)
    go_enter Try.func32, Try.ntmps32
    go_wp2_with fail
    go_region_held3 (fun W => w.heap.size < W.heap.size ∧ W.cell? ⟨w.heap.size, 0, none⟩ = some (.string k) ∧ W.cell? ⟨w.heap.size, 1, none⟩ = some (.int .i64 l) ∧ W.cell? ⟨w.heap.size, 2, none⟩ = some (.int .i64 t)) (go_keep) ((go_at_call 28; refine (hcall _).mono ?_; rintro e w' ⟨rfl, hb1⟩; have k0 := hb1.cell (p := ⟨w.heap.size, 0, none⟩) (by simp); have k1 := hb1.cell (p := ⟨w.heap.size, 1, none⟩) (by simp); have k2 := hb1.cell (p := ⟨w.heap.size, 2, none⟩) (by simp); have ks : w.heap.size < w'.heap.size := Nat.lt_of_lt_of_le (by simp) hb1.size))
    all_goals
      go_wp2_with fail
      go_ret
      exact ⟨rfl, below_box hb1⟩
  · rw [show min (l + q) 4 = l + q from by omega]
    have hwr : IntKind.i64.wrap (l + q) = l + q := IntWalk.i64_in _ (by omega)
    go_enter Try.func32, Try.ntmps32
    go_wp2_with fail
    go_region_held3 (fun W => w.heap.size < W.heap.size ∧ W.cell? ⟨w.heap.size, 0, none⟩ = some (.string k) ∧ W.cell? ⟨w.heap.size, 1, none⟩ = some (.int .i64 l) ∧ W.cell? ⟨w.heap.size, 2, none⟩ = some (.int .i64 t)) (go_keep) ((go_at_call 28; refine (hcall _).mono ?_; rintro e w' ⟨rfl, hb1⟩; have k0 := hb1.cell (p := ⟨w.heap.size, 0, none⟩) (by simp); have k1 := hb1.cell (p := ⟨w.heap.size, 1, none⟩) (by simp); have k2 := hb1.cell (p := ⟨w.heap.size, 2, none⟩) (by simp); have ks : w.heap.size < w'.heap.size := Nat.lt_of_lt_of_le (by simp) hb1.size))
    all_goals
      go_wp2_with fail
      go_ret
      exact ⟨rfl, below_box hb1⟩

/-! ### comparing -/
theorem cmp_eq_iff : ∀ a b : List UInt8, Lib.compareBytes a b = 0 ↔ a = b
  | [], [] => by simp [Lib.compareBytes]
  | [], _ :: _ => by simp [Lib.compareBytes]
  | _ :: _, [] => by simp [Lib.compareBytes]
  | a :: xs, b :: ys => by
    unfold Lib.compareBytes
    by_cases h : a < b
    · rw [if_pos h]
      have : a ≠ b := fun e => by rw [e] at h; exact UInt8.lt_irrefl b h
      simp [this]
    · rw [if_neg h]
      by_cases h2 : b < a
      · rw [if_pos h2]
        have : a ≠ b := fun e => by rw [e] at h2; exact UInt8.lt_irrefl b h2
        simp [this]
      · rw [if_neg h2, cmp_eq_iff xs ys]
        have : a = b := UInt8.le_antisymm (UInt8.not_lt.1 h2) (UInt8.not_lt.1 h)
        simp [this]
theorem cmp_lt_iff : ∀ a b : List UInt8, Lib.compareBytes a b < 0 ↔ a < b
  | [], [] => by simp [Lib.compareBytes]
  | [], _ :: _ => by simp [Lib.compareBytes]
  | _ :: _, [] => by simp [Lib.compareBytes]
  | a :: xs, b :: ys => by
    unfold Lib.compareBytes
    rw [List.cons_lt_cons_iff]
    by_cases h : a < b
    · rw [if_pos h]; simp [h]
    · rw [if_neg h]
      by_cases h2 : b < a
      · rw [if_pos h2]
        have : a ≠ b := fun e => by rw [e] at h2; exact UInt8.lt_irrefl b h2
        simp [this, h]
      · rw [if_neg h2, cmp_lt_iff xs ys]
        have : a = b := UInt8.le_antisymm (UInt8.not_lt.1 h2) (UInt8.not_lt.1 h)
        simp [this]
def cmpv (a b : ByteArray) : Int := Lib.compareBytes (kl a) (kl b)

set_option maxHeartbeats 1000000 in
theorem compareString_any (a b : ByteArray) (w : World) : Calls Try.prog 41 #[.string a, .string b] w fun e w' => e = .returned (.int .i64 (cmpv a b)) ∧ w' = w := by
  go_enter Try.func41, Try.ntmps41
  go_wp2
  rw [run_callFunc_extern Try.func42 (by kernel_rfl) (by kernel_rfl) (by kernel_rfl) (e := Extern.BytealgCompare.compare) (by kernel_rfl), Lib.run_compareString]
  simp only [Result.andThen]
  rw [Oper.upon_value]
  go_wp2
  go_ret
  exact ⟨rfl, rfl⟩
set_option maxHeartbeats 1000000 in
theorem compare_any (a b : ByteArray) (w : World) : Calls Try.prog 38 #[.string a, .string b] w fun e w' => e = .returned (.int .i64 (cmpv a b)) ∧ w' = w := by
  go_enter Try.func38, Try.ntmps38
  go_wp2_with (go_at_call 41; refine (compareString_any _ _ _).mono ?_; rintro e w' ⟨rfl, rfl⟩)
  go_ret
  exact ⟨rfl, rfl⟩
set_option maxHeartbeats 1000000 in
theorem cmp_any (b : Bk) (k : ByteArray) (w : World) : Calls Try.prog 37 #[b.val, .string k] w fun e w' => e = .returned (.int .i64 (cmpv b.key k)) ∧ Below w.heap.size w w' := by
  obtain ⟨key, l, t⟩ := b
  unfold Bk.val
  simp only
  go_enter Try.func37, Try.ntmps37
  go_wp2_with (go_at_call 38; refine (compare_any _ _ _).mono ?_; rintro e w' ⟨rfl, rfl⟩)
  go_ret
  exact ⟨rfl, (Below.refl _ _).alloc (Nat.le_refl _) _⟩

set_option maxHeartbeats 1000000 in
theorem most_any (t : Int) (ht : -9000000000000000000 ≤ t ∧ t ≤ 9000000000000000000) (w : World) : Calls Try.prog 17 #[.int .i64 t] w fun e w' => e = .returned (.int .i64 (mostP t)) ∧ w' = w := by
  unfold mostP
  by_cases h : t < 1
  · rw [if_pos h]
    go_enter Try.func17, Try.ntmps17
    go_wp2
    go_ret
    exact ⟨rfl, rfl⟩
  · rw [if_neg h]
    by_cases h2 : 1099511627776 < t
    · rw [show min t 1099511627776 = 1099511627776 from by omega]
      go_enter Try.func17, Try.ntmps17
      go_wp2
      go_ret
      exact ⟨rfl, rfl⟩
    · rw [show min t 1099511627776 = t from by omega]
      go_enter Try.func17, Try.ntmps17
      go_wp2
      go_ret
      exact ⟨rfl, rfl⟩
end Go.Proofs.Ytpfogfglkknmoaa
