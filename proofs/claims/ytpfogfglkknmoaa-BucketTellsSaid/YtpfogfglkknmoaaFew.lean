/- Rows as they stand: cut to few. -/
import Derived.Test.YtpfogfglkknmoaaRtake
namespace Go.Proofs.Ytpfogfglkknmoaa
open Go.RowKit
/-- buckets that lie at an address, as they stand -/
def Raw (w : World) (A : Option Addr) (n : Nat) (f : Nat → Bk) : Prop :=
  ∀ i, i < n → (f i).key.size ≤ maxLen ∧ ∃ ad, A = some ad ∧ ad.block < w.heap.size ∧ w.cell? (ad.add (i * 3)) = some (.string (f i).key) ∧ w.cell? ((ad.add (i * 3)).add 1) = some (.int .i64 (f i).left) ∧ w.cell? ((ad.add (i * 3)).add 2) = some (.int .i64 (f i).at_)
theorem Raw.below {w w' : World} {A : Option Addr} {n : Nat} {f : Nat → Bk} (h : Raw w A n f) (hb : Below w.heap.size w w') : Raw w' A n f := by
  intro i hi
  obtain ⟨hs, ad, e, hg, h1, h2, h3⟩ := h i hi
  exact ⟨hs, ad, e, Nat.lt_of_lt_of_le hg hb.size, (hb.cell (by rw [block_of_add]; exact hg)).trans h1, (hb.cell (by rw [block_of_add, block_of_add]; exact hg)).trans h2, (hb.cell (by rw [block_of_add, block_of_add]; exact hg)).trans h3⟩
def cutP (b : Bk) : Bk := ⟨if 8 < b.key.size then b.key.extract 0 8 else b.key, b.left, b.at_⟩
def fewP (f : Nat → Bk) (n : Nat) : List Bk := (List.range n).map fun i => cutP (f i)
theorem fewP_length (f : Nat → Bk) (n : Nat) : (fewP f n).length = n := by unfold fewP; simp
theorem fewP_succ (f : Nat → Bk) (n : Nat) : fewP f (n + 1) = fewP f n ++ [cutP (f n)] := by
  unfold fewP; rw [List.range_succ, List.map_append]; rfl

set_option maxRecDepth 100000 in
set_option maxHeartbeats 4000000 in
theorem few_any (A : Option Addr) (len c : Nat) (f : Nat → Bk) (hlen : len ≤ maxLen) (w : World) (hs : Raw w A len f) :
    Calls Try.prog 23 #[.slice A len c] w fun e w' => ∃ v', e = .returned v' ∧ Below w.heap.size w w' ∧ Made w.heap.size v' (fewP f (min len 26)) w' := by
  obtain ⟨i0, hi, hz0, hz1, hz2⟩ := info_parts info54
  obtain ⟨n, hn⟩ : ∃ n, n = min len 26 := ⟨_, rfl⟩
  rw [← hn]
  have hlen' : (len : Int) ≤ 9223372036854775807 := by unfold maxLen at hlen; omega
  have HS := Lib.hid hs
  have HN := Lib.hid hn
  have hn1 : n ≤ len := by omega
  have hn2 : n ≤ 26 := by omega
  clear hs hn
  go_enter Try.func23, Try.ntmps23
  go_wp2_with fail
  go_loopw [3, 4, 5] (fun v3 v4 _ wr => ∃ k : Nat, k ≤ n ∧ v4 = .int .i64 (k : Int) ∧ wr.ownsRow w.heap.size 54 3 v3 k (cellsOf (fewP f k)) ∧ Below w.heap.size w wr)
    (fun _ v4 _ _ => n - (intOf v4).toNat)
  case atStart => exact ⟨0, by omega, rfl, World.ownsRow_nil _ _ _ _, Below.refl _ _⟩
  case round =>
    obtain ⟨k, hk, rfl, hown, hb⟩ := hrel
    by_cases hlt : k < n
    · obtain ⟨hsz, ad, rfl, hg, c0, c1, c2⟩ := HS.out k (by omega)
      have hp0 : (ad.add (k * 3)).block < w.heap.size := by rw [block_of_add]; exact hg
      replace c0 := (hb.cell (by exact hp0)).trans c0
      have c1' : wr.cell? ⟨(ad.add (k * 3)).block, (ad.add (k * 3)).off + 1, none⟩ = some (.int .i64 (f k).left) := (hb.cell (by exact hp0)).trans c1
      have c2' : wr.cell? ⟨(ad.add (k * 3)).block, (ad.add (k * 3)).off + 2, none⟩ = some (.int .i64 (f k).at_) := (hb.cell (by exact hp0)).trans c2
      clear c1 c2
      have hss := hb.size
      have hkl : (k : Int) < (len : Int) := by omega
      have hk26 : (k : Int) < 26 := by omega
      have hk0 : (0 : Int) ≤ (k : Int) := by omega
      have HX := Lib.hid (fewP_succ f k)
      have hszZ : ((f k).key.size : Int) ≤ 9223372036854775807 := by unfold maxLen at hsz; omega
      unfold cutP at HX
      by_cases h8 : 8 < (f k).key.size
      · rw [if_pos h8] at HX
        have h8Z : (8 : Int) < ((f k).key.size : Int) := by omega
        clear h8
        generalize f k = b at *
        have hN1 := news3 (wr.alloc (.cells #[.string (b.key.extract 0 8), .int .i64 b.left, .int .i64 b.at_] 54)) ⟨(b.key.extract 0 8), b.left, b.at_⟩
        rw [show (wr.alloc (.cells #[.string (b.key.extract 0 8), .int .i64 b.left, .int .i64 b.at_] 54)).heap.size = wr.heap.size + 1 from by simp] at hN1
        have HN1 := Lib.hid hN1
        clear hN1
        go_wp2_with (at_builtin; refine wpList_append_own _ rfl _ _ 25 rfl w.heap.size 54 i0 _ 3 32 Try.underlying25 hi hz0 hz1 hz2 rfl (by omega) _ k (cellsOf (fewP f k)) rfl ((hown.alloc _).alloc _) ⟨wr.heap.size + 1, 0, none⟩ 1 1 [.string (b.key.extract 0 8), .int .i64 b.left, .int .i64 b.at_] rfl rfl HN1.out (by simp [Value.oneCell']) (by unfold maxLen; omega) (by omega) (by simp; omega) ?_)
        intro v' w4 hown4 hgrow _
        have hbn := ((hb.alloc hss (.cells #[.string (b.key.extract 0 8), .int .i64 b.left, .int .i64 b.at_] 54)).alloc (by simp; omega) (.cells #[.string (b.key.extract 0 8), .int .i64 b.left, .int .i64 b.at_] 54)).grown hgrow (by simp; omega) (fun j hj => (hown.lt j hj).1)
        have HOWN := Lib.hid (show w4.ownsRow w.heap.size 54 3 v' (k + 1) (cellsOf (fewP f (k + 1))) by rw [HX.out, cellsOf_append]; exact hown4)
        clear hown4 hgrow hown
        go_wp2_with fail
        go_roundw
        case rel => exact ⟨k + 1, by omega, by go_num, HOWN.out, hbn⟩
        case measure => simp [intOf]; omega
      · rw [if_neg h8] at HX
        have h8Z : ¬ (8 : Int) < ((f k).key.size : Int) := by omega
        clear h8
        generalize f k = b at *
        have hN1 := news3 (wr.alloc (.cells #[.string b.key, .int .i64 b.left, .int .i64 b.at_] 54)) ⟨b.key, b.left, b.at_⟩
        rw [show (wr.alloc (.cells #[.string b.key, .int .i64 b.left, .int .i64 b.at_] 54)).heap.size = wr.heap.size + 1 from by simp] at hN1
        have HN1 := Lib.hid hN1
        clear hN1
        go_wp2_with (at_builtin; refine wpList_append_own _ rfl _ _ 25 rfl w.heap.size 54 i0 _ 3 32 Try.underlying25 hi hz0 hz1 hz2 rfl (by omega) _ k (cellsOf (fewP f k)) rfl ((hown.alloc _).alloc _) ⟨wr.heap.size + 1, 0, none⟩ 1 1 [.string b.key, .int .i64 b.left, .int .i64 b.at_] rfl rfl HN1.out (by simp [Value.oneCell']) (by unfold maxLen; omega) (by omega) (by simp; omega) ?_)
        intro v' w4 hown4 hgrow _
        have hbn := ((hb.alloc hss (.cells #[.string b.key, .int .i64 b.left, .int .i64 b.at_] 54)).alloc (by simp; omega) (.cells #[.string b.key, .int .i64 b.left, .int .i64 b.at_] 54)).grown hgrow (by simp; omega) (fun j hj => (hown.lt j hj).1)
        have HOWN := Lib.hid (show w4.ownsRow w.heap.size 54 3 v' (k + 1) (cellsOf (fewP f (k + 1))) by rw [HX.out, cellsOf_append]; exact hown4)
        clear hown4 hgrow hown
        go_wp2_with fail
        go_roundw
        case rel => exact ⟨k + 1, by omega, by go_num, HOWN.out, hbn⟩
        case measure => simp [intOf]; omega
    · obtain rfl : k = n := by omega
      have HM := Lib.hid (owned_of_row (l := fewP f k) (by rw [fewP_length]; exact hown))
      have hcase : (¬ (k : Int) < (len : Int)) ∨ ((k : Int) < (len : Int) ∧ ¬ (k : Int) < 26) := by have := HN.out; omega
      clear hown
      rcases hcase with hca | ⟨hca, hcb⟩
      · go_wp2_with fail
        go_ret
        exact ⟨_, rfl, hb, HM.out⟩
      · go_wp2_with fail
        go_ret
        exact ⟨_, rfl, hb, HM.out⟩
end Go.Proofs.Ytpfogfglkknmoaa
