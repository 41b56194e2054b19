/- The contracts of the layer retry: what each function of it answers, for every input of which the statements speak. -/
import Derived.Test.YtphpfabhdngboaaRows
import Derived.WalkKit
import Derived.WalkLawsBesides
import Derived.WalkSpells
import Derived.Outline
import Derived.Deep.RegionWith
import Derived.ChangeAlike
namespace Go.Proofs.Ytphpfabhdngboaa
open Go.RowKit

def dl (n : Int) : Int := if n < 1 then 0 else if n = 1 then 1 else if n = 2 then 2 else if n = 3 then 4 else if n = 4 then 8 else if n = 5 then 16 else if n = 6 then 32 else 64
def upv (n : Int) : Int := if n < 1 then 0 else if n = 1 then 1 else if n = 2 then 3 else if n = 3 then 7 else if n = 4 then 15 else if n = 5 then 31 else if n = 6 then 63 else 127 + 64 * (n - 7)
theorem upv_succ (n : Int) (h : 0 ≤ n) : upv (n + 1) = upv n + dl (n + 1) := by unfold upv dl; omega

theorem delay_num : ∀ k : Nat, k < 9 → ∀ w : World, Calls Try.prog 10 #[.int .i64 (k : Int)] w fun e w' => e = .returned (.int .i64 (dl k)) ∧ w = w' := by
  intro k hk w
  rcases (show k = 0 ∨ k = 1 ∨ k = 2 ∨ k = 3 ∨ k = 4 ∨ k = 5 ∨ k = 6 ∨ k = 7 ∨ k = 8 from by omega) with rfl | rfl | rfl | rfl | rfl | rfl | rfl | rfl | rfl
  all_goals
    go_enter Try.func10, Try.ntmps10
    go_wp2
    go_ret
    exact ⟨rfl, rfl⟩

set_option maxHeartbeats 400000 in
theorem delay_any (n : Int) (w : World) (h1 : -9223372036854775808 ≤ n) (h2 : n ≤ 9223372036854775807) :
    Calls Try.prog 10 #[.int .i64 n] w fun e w' => e = .returned (.int .i64 (dl n)) ∧ w = w' := by
  by_cases h : n < 1
  · have hd : dl n = 0 := by unfold dl; omega
    rw [hd]
    go_enter Try.func10, Try.ntmps10
    go_wp2
    go_ret
    exact ⟨rfl, rfl⟩
  · by_cases h8 : 8 < n
    · have hd : dl n = 64 := by unfold dl; omega
      rw [hd]
      have h7 : 7 < n - 1 := by omega
      have hw : wrap64 128 = 128 := by unfold wrap64; omega
      go_enter Try.func10, Try.ntmps10
      go_wp2
      go_ret
      exact ⟨rfl, rfl⟩
    · obtain ⟨k, rfl⟩ := Int.eq_ofNat_of_zero_le (show 0 ≤ n from by omega)
      exact delay_num k (by omega) w

theorem dl_bd (n : Int) : 0 ≤ dl n ∧ dl n ≤ 64 := by unfold dl; omega

set_option maxHeartbeats 400000 in
theorem put_any (i s : Int) (b : Nat) (w : World) (hi : 0 ≤ i) (hi2 : i ≤ 6) (hs : 0 ≤ s) (hs2 : s ≤ 1000)
    (hc : w.cell? ⟨b, 0, none⟩ = some (.int .i64 s)) (hf : w.frozen? ⟨b, 0, none⟩ = false) :
    Calls Try.prog 22 #[.int .i64 i, .pointer (some ⟨b, 0, none⟩)] w fun e w' => e = .returned (.tuple #[]) ∧ (w.setCell ⟨b, 0, none⟩ (.int .i64 (s + dl (i + 1)))).drew = w' := by
  have hd := dl_bd (i + 1)
  have e1 : IntKind.i64.wrap (i + 1) = i + 1 := IntWalk.i64_in _ (by omega)
  have e2 : IntKind.i64.wrap (s + dl (i + 1)) = s + dl (i + 1) := IntWalk.i64_in _ (by omega)
  go_enter Try.func22, Try.ntmps22
  go_wp2
  go_region_with (go_at_call 10; refine (delay_any _ _ (by omega) (by omega)).mono ?_; rintro e w' ⟨rfl, rfl⟩)
  all_goals
    go_wp2
    go_end0
    exact ⟨rfl, rfl⟩

theorem ret_int {k : IntKind} {a b : Int} (h : a = b) : Ending.returned (.int k a) = .returned (.int k b) := by rw [h]
theorem upv_bd (n : Int) (h : n ≤ 1000000) : 0 ≤ upv n ∧ upv n ≤ 64000000 := by unfold upv; omega
theorem upv_low (n : Int) (h : n ≤ 7) : upv n ≤ 127 := by unfold upv; omega
theorem upv_zero : upv 0 = 0 := by decide
theorem upv_end (n k : Int) (h0 : 0 ≤ n) (h : k = min n 7) : upv k + max (n - 7) 0 * 64 = upv n := by unfold upv; omega

set_option maxHeartbeats 1000000 in
theorem up_any (n : Int) (w : World) (h1 : 0 ≤ n) (h2 : n ≤ 1000000) :
    Calls Try.prog 19 #[.int .i64 n] w fun e w' => e = .returned (.int .i64 (upv n)) ∧ Below w.heap.size w w' := by
  by_cases h7 : n ≤ 7
  all_goals
    go_enter Try.func19, Try.ntmps19
    go_wp2
    go_loopw [5, 9] (fun _ i wr => ∃ k : Nat, k ≤ 7 ∧ (k : Int) ≤ n ∧ i = .int .i64 k ∧ wr.cell? ⟨w.heap.size, 0, none⟩ = some (.int .i64 (upv k)) ∧ wr.frozen? ⟨w.heap.size, 0, none⟩ = false ∧ Below w.heap.size w wr ∧ w.heap.size < wr.heap.size)
      (fun _ i _ => 7 - (intOf i).toNat)
    case atStart =>
      have hz0 : upv ((0 : Nat) : Int) = 0 := by decide
      exact ⟨0, by omega, by omega, rfl, by rw [hz0]; simp, by simp, (Below.refl _ _).alloc (Nat.le_refl _) _, by simp⟩
    case round =>
      obtain ⟨k, hk7, hkn, rfl, hc, hf, hb, hs⟩ := hrel
      have hu := upv_bd k (by omega)
      have hl := upv_low k (by omega)
      go_wp2_with (go_at_call 22; refine (put_any _ _ _ _ (by omega) (by omega) (by omega) (by omega) hc hf).mono ?_; rintro e w' ⟨rfl, rfl⟩)
      · go_roundw
        case rel =>
          refine ⟨k + 1, by omega, by omega, by go_num, ?_, ?_, ?_, ?_⟩
          · have e : upv ((k + 1 : Nat) : Int) = upv k + dl (k + 1) := upv_succ k (by omega)
            rw [e]
            exact World.cell?_setCell_same' _ _ _ (by rw [hc]; rfl)
          · simp [hf]
          · exact (hb.setCell (Nat.le_refl _) _).drew
          · simpa using hs
        case measure => simp [intOf]; omega
      all_goals
        go_ret
        refine ⟨ret_int ?_, hb⟩
        have := upv_end n k h1 (by omega)
        omega

end Go.Proofs.Ytphpfabhdngboaa
