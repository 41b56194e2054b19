/- Same, of any two rows. -/
import Derived.Test.YtpfogfglkknmoaaSame
namespace Go.Proofs.Ytpfogfglkknmoaa
open Go.RowKit
/-- true, if the two are one -/
def Ans (l1 l2 : List Bk) (v : Value) : Prop := ∃ b : Bool, v = .bool b ∧ (l1 = l2 → b = true)
theorem Ans.yes (l1 l2 : List Bk) : Ans l1 l2 (.bool true) := ⟨true, rfl, fun _ => rfl⟩
theorem Ans.no {l1 l2 : List Bk} (h : l1 ≠ l2) (b : Bool) : Ans l1 l2 (.bool b) := ⟨b, rfl, fun e => absurd e h⟩
theorem neq_run (b b' : Bk) : ∃ X : Bool, ∀ W, (binOp .neq 54 (.agg #[.string b.key, .int .i64 b.left, .int .i64 b.at_]) (.agg #[.string b'.key, .int .i64 b'.left, .int .i64 b'.at_])).run Try.prog W = .ok (.bool X) W := by
  refine ⟨!((b.key.toList == b'.key.toList) && (b.left == b'.left) && (b.at_ == b'.at_)), fun W => ?_⟩
  cases h1 : (b.key.toList == b'.key.toList) <;> cases h2 : (b.left == b'.left) <;> cases h3 : (b.at_ == b'.at_) <;> simp [binOp, Op.equal, Op.maxDepth, go_sem, h1, h2, h3]

set_option maxHeartbeats 4000000 in
theorem same_gen (l1 l2 : List Bk) (hlen1 : l1.length ≤ 1000) (hlen2 : l2.length ≤ 1000) (v1 v2 : Value) (w : World) (h1 : Sl v1 l1 w) (h2 : Sl v2 l2 w) :
    Calls Try.prog 16 #[v1, v2] w fun e w' => ∃ v, e = .returned v ∧ Ans l1 l2 v ∧ Below w.heap.size w w' := by
  by_cases hll : l1.length = l2.length
  · obtain ⟨A, c, rfl, -, -, -, hr1⟩ := h1
    obtain ⟨A', c', rfl, -, -, -, hr2⟩ := h2
    have H1 := Lib.hid hr1
    have H2 := Lib.hid hr2
    clear hr1 hr2
    have HLL := Lib.hid hll
    have hzz : ((l1.length : Int) == (l2.length : Int)) = true := by simp [hll]
    have hzn : ((l1.length : Int) != (l2.length : Int)) = false := by simp [hll]
    clear hll
    go_enter Try.func16, Try.ntmps16
    go_wp2_with fail
    go_loopw [5] (fun v5 wr => ∃ k : Nat, k ≤ l1.length ∧ v5 = .int .i64 (k : Int) ∧ Below w.heap.size w wr)
      (fun v5 _ => l1.length - (intOf v5).toNat)
    case atStart => exact ⟨0, by omega, rfl, Below.refl _ _⟩
    case round =>
      obtain ⟨k, hk, rfl, hb⟩ := hrel
      by_cases hlt : k < l1.length
      · have hlt2 : k < l2.length := by have := HLL.out; omega
        obtain ⟨g, o, rfl, hg, c0, c1, c2⟩ := (H1.out.below hb).at_ k hlt
        obtain ⟨g', o', rfl, hg', d0, d1, d2⟩ := (H2.out.below hb).at_ k hlt2
        have hkz : (k : Int) < (l1.length : Int) := by omega
        have hkz2 : (k : Int) < (l2.length : Int) := by omega
        have hk0 : (0 : Int) ≤ (k : Int) := by omega
        by_cases he : l1[k]'hlt = l2[k]'hlt2
        · rw [← he] at d0 d1 d2
          clear he
          generalize l1[k]'hlt = b at *
          go_wp2_with fail
          go_quiet (fail)
          go_wp2_with fail
          go_roundw
          case rel => exact ⟨k + 1, by omega, by go_num, below_drewN hb _⟩
          case measure => simp [intOf]; omega
        · have HNE : Hid (l1 ≠ l2) := Lib.hid fun e => he (by subst e; rfl)
          clear he
          generalize l1[k]'hlt = b at *
          generalize l2[k]'hlt2 = b' at *
          obtain ⟨X, hX⟩ := neq_run b b'
          cases X
          · go_wp2_with fail
            go_quiet (fail)
            go_wp2_with fail
            go_roundw
            case rel => exact ⟨k + 1, by omega, by go_num, below_drewN hb _⟩
            case measure => simp [intOf]; omega
          · go_wp2_with fail
            go_quiet (fail)
            go_wp2_with fail
            go_ret
            exact ⟨_, rfl, Ans.no HNE.out _, below_drewN hb _⟩
      · obtain rfl : k = l1.length := by omega
        have hll : ¬ (l1.length : Int) < (l1.length : Int) := by omega
        go_wp2_with fail
        go_ret
        exact ⟨_, rfl, Ans.yes _ _, hb⟩
  · obtain ⟨A, c, rfl, -, -, -, -⟩ := h1
    obtain ⟨A', c', rfl, -, -, -, -⟩ := h2
    have HNE : Hid (l1 ≠ l2) := Lib.hid fun e => hll (by rw [e])
    have hzn : ((l1.length : Int) == (l2.length : Int)) = false := by simp; omega
    clear hll
    go_enter Try.func16, Try.ntmps16
    go_wp2_with fail
    go_ret
    exact ⟨_, rfl, Ans.no HNE.out _, Below.refl _ _⟩
end Go.Proofs.Ytpfogfglkknmoaa
