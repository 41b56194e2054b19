/- Same. -/
import Derived.Test.YtpfogfglkknmoaaTakes
import Derived.Deep.QuietTactic
namespace Go.Proofs.Ytpfogfglkknmoaa
open Go.RowKit
theorem below_drewN {B : Nat} {a w : World} (h : Below B a w) (n : Nat) : Below B a (w.drewN n) := ⟨h.os, h.tape, h.output, h.size, h.block⟩
set_option maxHeartbeats 2000000 in
/-- two rows that are one -/
theorem same_any (l : List Bk) (hlen : l.length ≤ 1000) (v1 v2 : Value) (w : World) (h1 : Sl v1 l w) (h2 : Sl v2 l w) :
    Calls Try.prog 16 #[v1, v2] w fun e w' => e = .returned (.bool true) ∧ Below w.heap.size w w' := by
  obtain ⟨A, c, rfl, -, -, -, hr1⟩ := h1
  obtain ⟨A', c', rfl, -, -, -, hr2⟩ := h2
  have H1 := Lib.hid hr1
  have H2 := Lib.hid hr2
  clear hr1 hr2
  go_enter Try.func16, Try.ntmps16
  go_wp2_with fail
  go_loopw [5] (fun v5 wr => ∃ k : Nat, k ≤ l.length ∧ v5 = .int .i64 (k : Int) ∧ Below w.heap.size w wr)
    (fun v5 _ => l.length - (intOf v5).toNat)
  case atStart => exact ⟨0, by omega, rfl, Below.refl _ _⟩
  case round =>
    obtain ⟨k, hk, rfl, hb⟩ := hrel
    by_cases hlt : k < l.length
    · obtain ⟨g, o, rfl, hg, c0, c1, c2⟩ := (H1.out.below hb).at_ k hlt
      obtain ⟨g', o', rfl, hg', d0, d1, d2⟩ := (H2.out.below hb).at_ k hlt
      have hkz : (k : Int) < (l.length : Int) := by omega
      have hk0 : (0 : Int) ≤ (k : Int) := by omega
      generalize l[k]'hlt = b at *
      go_wp2_with fail
      go_quiet (fail)
      go_wp2_with fail
      go_roundw
      case rel => exact ⟨k + 1, by omega, by go_num, below_drewN hb _⟩
      case measure => simp [intOf]; omega
    · obtain rfl : k = l.length := by omega
      have hll : ¬ (l.length : Int) < (l.length : Int) := by omega
      go_wp2_with fail
      go_ret
      exact ⟨rfl, hb⟩
end Go.Proofs.Ytpfogfglkknmoaa
