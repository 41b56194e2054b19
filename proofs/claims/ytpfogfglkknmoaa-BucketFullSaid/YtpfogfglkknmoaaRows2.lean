/- Rows by numbers. -/
import Derived.Test.YtpfogfglkknmoaaTakes
import Derived.Laws.BitsLemmas
namespace Go.Proofs.Ytpfogfglkknmoaa
open Go.RowKit

theorem i64_and3 (n : Int) : bits .and .i64 n 3 = n % 4 := by
  have h127 : (BitVec.ofInt 64 3).toNat = 2 ^ 2 - 1 := by decide
  have key : (BitVec.ofInt 64 n &&& BitVec.ofInt 64 3).toNat = (n % ((2 ^ 64 : Nat) : Int)).toNat % 2 ^ 2 := by
    rw [BitVec.toNat_and, BitVec.toNat_ofInt, h127, Nat.and_two_pow_sub_one_eq_mod]
  show IntKind.i64.wrap ((BitVec.ofInt 64 n &&& BitVec.ofInt 64 3).toNat : Nat) = n % 4
  rw [key, IntKind.wrap_i64]
  omega
theorem i64_and127 (n : Int) : bits .and .i64 n 127 = n % 128 := by
  have h127 : (BitVec.ofInt 64 127).toNat = 2 ^ 7 - 1 := by decide
  have key : (BitVec.ofInt 64 n &&& BitVec.ofInt 64 127).toNat = (n % ((2 ^ 64 : Nat) : Int)).toNat % 2 ^ 7 := by
    rw [BitVec.toNat_and, BitVec.toNat_ofInt, h127, Nat.and_two_pow_sub_one_eq_mod]
  show IntKind.i64.wrap ((BitVec.ofInt 64 n &&& BitVec.ofInt 64 127).toNat : Nat) = n % 128
  rw [key, IntKind.wrap_i64]
  omega
theorem i64_and255 (n : Int) : bits .and .i64 n 255 = n % 256 := by
  have h127 : (BitVec.ofInt 64 255).toNat = 2 ^ 8 - 1 := by decide
  have key : (BitVec.ofInt 64 n &&& BitVec.ofInt 64 255).toNat = (n % ((2 ^ 64 : Nat) : Int)).toNat % 2 ^ 8 := by
    rw [BitVec.toNat_and, BitVec.toNat_ofInt, h127, Nat.and_two_pow_sub_one_eq_mod]
  show IntKind.i64.wrap ((BitVec.ofInt 64 n &&& BitVec.ofInt 64 255).toNat : Nat) = n % 256
  rw [key, IntKind.wrap_i64]
  omega
theorem i64_and31 (n : Int) : bits .and .i64 n 31 = n % 32 := by
  have h127 : (BitVec.ofInt 64 31).toNat = 2 ^ 5 - 1 := by decide
  have key : (BitVec.ofInt 64 n &&& BitVec.ofInt 64 31).toNat = (n % ((2 ^ 64 : Nat) : Int)).toNat % 2 ^ 5 := by
    rw [BitVec.toNat_and, BitVec.toNat_ofInt, h127, Nat.and_two_pow_sub_one_eq_mod]
  show IntKind.i64.wrap ((BitVec.ofInt 64 n &&& BitVec.ofInt 64 31).toNat : Nat) = n % 32
  rw [key, IntKind.wrap_i64]
  omega
theorem i64_and63 (n : Int) : bits .and .i64 n 63 = n % 64 := by
  have h127 : (BitVec.ofInt 64 63).toNat = 2 ^ 6 - 1 := by decide
  have key : (BitVec.ofInt 64 n &&& BitVec.ofInt 64 63).toNat = (n % ((2 ^ 64 : Nat) : Int)).toNat % 2 ^ 6 := by
    rw [BitVec.toNat_and, BitVec.toNat_ofInt, h127, Nat.and_two_pow_sub_one_eq_mod]
  show IntKind.i64.wrap ((BitVec.ofInt 64 n &&& BitVec.ofInt 64 63).toNat : Nat) = n % 64
  rw [key, IntKind.wrap_i64]
  omega
theorem i64_and1 (n : Int) : bits .and .i64 n 1 = n % 2 := by
  have h127 : (BitVec.ofInt 64 1).toNat = 2 ^ 1 - 1 := by decide
  have key : (BitVec.ofInt 64 n &&& BitVec.ofInt 64 1).toNat = (n % ((2 ^ 64 : Nat) : Int)).toNat % 2 ^ 1 := by
    rw [BitVec.toNat_and, BitVec.toNat_ofInt, h127, Nat.and_two_pow_sub_one_eq_mod]
  show IntKind.i64.wrap ((BitVec.ofInt 64 n &&& BitVec.ofInt 64 1).toNat : Nat) = n % 2
  rw [key, IntKind.wrap_i64]
  omega

def digits : ByteArray := ⟨#[48, 49, 50, 51, 52, 53, 54, 55, 56, 57, 97, 98, 99, 100, 101, 102, 103, 104, 105, 106, 107, 108, 109, 110, 111, 112, 113, 114, 115, 116, 117, 118, 119, 120, 121, 122]⟩
def digit (i : Nat) : ByteArray := digits.extract i (i + 1)
def rowP (f : Nat → Int × Int) (i : Nat) : Bk := ⟨digit i, (f i).1 % 4, (f i).2 % 128⟩
def rowsP (f : Nat → Int × Int) (n : Nat) : List Bk := (List.range n).map (rowP f)
theorem rowsP_length (f : Nat → Int × Int) (n : Nat) : (rowsP f n).length = n := by unfold rowsP; simp
theorem rowsP_succ (f : Nat → Int × Int) (n : Nat) : rowsP f (n + 1) = rowsP f n ++ [rowP f n] := by
  unfold rowsP; rw [List.range_succ, List.map_append]; rfl
theorem digit_lt : ∀ i < 26, ∀ j < 26, i < j → kl (digit i) < kl (digit j) := by decide +kernel
theorem digit_ne : ∀ i < 26, kl (digit i) ≠ [] := by decide +kernel
theorem rowsP_valid (f : Nat → Int × Int) (n : Nat) (hn : n ≤ 26) : Valid 127 (rowsP f n) := by
  have hm : ∀ b ∈ rowsP f n, ∃ i, i < n ∧ b = rowP f i := by
    intro b hb
    unfold rowsP at hb
    obtain ⟨i, hi, rfl⟩ := List.mem_map.1 hb
    exact ⟨i, List.mem_range.1 hi, rfl⟩
  refine ⟨?_, ?_, ?_, ?_⟩
  · unfold Sorted
    rw [List.pairwise_iff_getElem]
    intro i j hi hj hij
    rw [rowsP_length] at hi hj
    have hg : ∀ t (ht : t < (rowsP f n).length), ((rowsP f n)[t]'ht).key = digit t := by
      intro t ht
      simp only [rowsP, List.getElem_map, List.getElem_range, rowP]
    rw [hg, hg]
    exact digit_lt i (by omega) j (by omega) hij
  · intro b hb
    obtain ⟨i, hi, rfl⟩ := hm b hb
    exact digit_ne i (by omega)
  · intro b hb
    obtain ⟨i, hi, rfl⟩ := hm b hb
    show 0 ≤ (f i).1 % 4 ∧ (f i).1 % 4 ≤ 3
    omega
  · intro b hb
    obtain ⟨i, hi, rfl⟩ := hm b hb
    show 0 ≤ (f i).2 % 128 ∧ (f i).2 % 128 ≤ 127
    omega

/-- pairs of numbers that lie at an address -/
def Src (w : World) (A : Option Addr) (n : Nat) (f : Nat → Int × Int) : Prop :=
  ∀ i, i < n → ∃ ad, A = some ad ∧ ad.block < w.heap.size ∧ w.cell? (ad.add (i * 2)) = some (.int .i64 (f i).1) ∧ w.cell? ((ad.add (i * 2)).add 1) = some (.int .i64 (f i).2)
theorem block_of_add (a : Addr) (n : Nat) : (a.add n).block = a.block := by unfold Addr.add; split <;> rfl
theorem Src.below {w w' : World} {A : Option Addr} {n : Nat} {f : Nat → Int × Int} (h : Src w A n f) (hb : Below w.heap.size w w') : Src w' A n f := by
  intro i hi
  obtain ⟨ad, e, hg, h1, h2⟩ := h i hi
  exact ⟨ad, e, Nat.lt_of_lt_of_le hg hb.size, (hb.cell (by rw [block_of_add]; exact hg)).trans h1, (hb.cell (by rw [block_of_add, block_of_add]; exact hg)).trans h2⟩

theorem grown_cell {W w2 : World} {row : Option Nat} {p : Addr} {v : Value} (hgrow : W.grownBy w2 row) (hp : p.block < W.heap.size) (hne : some p.block ≠ row) (h : W.cell? p = some v) : w2.cell? p = some v := (World.cell?_of_block (hgrow.block _ hp hne)).trans h

set_option maxHeartbeats 4000000 in
theorem rows_any (A : Option Addr) (len c : Nat) (f : Nat → Int × Int) (hlen : len ≤ maxLen) (w : World) (hs : Src w A len f) :
    Calls Try.prog 11 #[.slice A len c] w fun e w' => ∃ v', e = .returned v' ∧ Below w.heap.size w w' ∧ Made w.heap.size v' (rowsP f (min len 26)) w' := by
  obtain ⟨i0, hi, hz0, hz1, hz2⟩ := info_parts info54
  obtain ⟨n, hn⟩ : ∃ n, n = min len 26 := ⟨_, rfl⟩
  rw [← hn]
  have hlen' : (len : Int) ≤ 9223372036854775807 := by unfold maxLen at hlen; omega
  have HS := Lib.hid hs
  have HN := Lib.hid hn
  have hn1 : n ≤ len := by omega
  have hn2 : n ≤ 26 := by omega
  clear hs hn
  go_enter Try.func11, Try.ntmps11
  go_wp2_with fail
  go_loopw [4, 5] (fun v4 v5 wr => ∃ k : Nat, k ≤ n ∧ v5 = .int .i64 (k : Int) ∧ wr.ownsRow w.heap.size 54 3 v4 k (cellsOf (rowsP f k)) ∧ Below w.heap.size w wr)
    (fun _ v5 _ => n - (intOf v5).toNat)
  case atStart => exact ⟨0, by omega, rfl, World.ownsRow_nil _ _ _ _, Below.refl _ _⟩
  case round =>
    obtain ⟨k, hk, rfl, hown, hb⟩ := hrel
    by_cases hlt : k < n
    · obtain ⟨ad, rfl, hg, c0, c1⟩ := HS.out k (by omega)
      have hp0 : (ad.add (k * 2)).block < w.heap.size := by rw [block_of_add]; exact hg
      replace c0 := (hb.cell (by exact hp0)).trans c0
      replace c1 := (hb.cell (by rw [block_of_add]; exact hp0)).trans c1
      have hne : some (ad.add (k * 2)).block ≠ u4.ownBlock := fun e => by have := (hown.lt _ e.symm).1; omega
      have hss := hb.size
      have hkl : (k : Int) < (len : Int) := by omega
      have hk26 : (k : Int) < 26 := by omega
      have hk0 : (0 : Int) ≤ (k : Int) := by omega
      have hkt : ((k : Int)).toNat = k := by omega
      have hkt1 : ((k : Int) + 1).toNat = k + 1 := by omega
      have hk1 : (0 : Int) ≤ (k : Int) + 1 := by omega
      have hk36 : (k : Int) + 1 ≤ 36 := by omega
      have hkk : (k : Int) ≤ (k : Int) + 1 := by omega
      have hw1 : IntKind.i64.wrap ((k : Int) + 1) = (k : Int) + 1 := IntWalk.i64_in _ (by omega)
      have hb3 := i64_and3 (f k).1
      have hb7 := i64_and127 (f k).2
      have HROW : Hid (rowP f k = ⟨digits.extract k (k + 1), (f k).1 % 4, (f k).2 % 128⟩) := Lib.hid rfl
      have c1' : wr.cell? ⟨(ad.add (k * 2)).block, (ad.add (k * 2)).off + 1, none⟩ = some (.int .i64 (f k).2) := c1
      clear c1
      generalize (f k).1 = x at *
      generalize (f k).2 = y at *
      have HROW2 : Hid (rowP f k = ⟨digit k, x % 4, y % 128⟩) := HROW
      clear HROW
      go_wp2_with fail
      go_region_held3 (fun W => W.cell? (ad.add (k * 2)) = some (.int .i64 x) ∧ W.cell? ⟨(ad.add (k * 2)).block, (ad.add (k * 2)).off + 1, none⟩ = some (.int .i64 y)) (go_keep) ((refine step_append_lies _ (by rfl) _ _ _ (by rfl) w.heap.size 54 i0 _ 3 32 Try.underlying25 hi hz0 hz1 hz2 rfl (by omega) _ k (cellsOf (rowsP f k)) (by rfl) ((hown.alloc _).drew) ⟨wr.heap.size, 0, none⟩ 1 1 [.string (digit k), .int .i64 (x % 4), .int .i64 (y % 128)] (by rfl) (by rfl) (World.news_of_block (cs := #[.string (digit k), .int .i64 (x % 4), .int .i64 (y % 128)]) (t := 54) (fr := (0, 0)) (heap_alloc_new wr _)) (by simp [Value.oneCell']) (by omega) (by unfold maxLen; omega) (by omega) (by simp; omega) (wr.heap.size + 1) (by simp) ?_; intro gg cap w2 hown2 hgrow hat hlt2; have z0 := grown_cell (p := ad.add (k * 2)) hgrow (by simp; omega) hne (Lib.cell?_alloc_some _ c0); have z1 := grown_cell (p := ⟨(ad.add (k * 2)).block, (ad.add (k * 2)).off + 1, none⟩) hgrow (by simp; omega) hne (Lib.cell?_alloc_some _ c1')))
      all_goals
        have hbn := ((hb.alloc hss (.cells #[.string (digit k), .int .i64 (x % 4), .int .i64 (y % 128)] 54)).drew).grown hgrow (by simp; omega) (fun j hj => (hown.lt j hj).1)
        have hownN : Hid (w2.ownsRow w.heap.size 54 3 (.slice (some ⟨gg, 0, none⟩) (k + 1) cap) (k + 1) (cellsOf (rowsP f (k + 1)))) := by
          have e : cellsOf [rowP f k] = [.string (digit k), .int .i64 (x % 4), .int .i64 (y % 128)] := by rw [HROW2.out]; rfl
          rw [rowsP_succ, cellsOf_append, e]; exact hown2
        clear hown2 hgrow hat hlt2 hown hb
        try go_wp2_with fail
        go_roundw
        case rel => exact ⟨k + 1, by omega, by go_num, hownN.out, hbn⟩
        case measure => simp [intOf]; omega
    · obtain rfl : k = n := by omega
      have hrow := owned_of_row (l := rowsP f k) (by rw [rowsP_length]; exact hown)
      have HM := Lib.hid hrow
      clear hrow hown
      have hn := HN.out
      by_cases h26 : len < 26
      · obtain rfl : k = len := by omega
        clear hn
        have hll : ¬ (k : Int) < (k : Int) := by omega
        go_wp2_with fail
        go_ret
        exact ⟨_, rfl, hb, HM.out⟩
      · obtain rfl : k = 26 := by omega
        clear hn
        have hll : ¬ (26 : Int) < 26 := by omega
        by_cases h27 : 26 < len
        · have h27' : (26 : Int) < (len : Int) := by omega
          go_wp2_with fail
          go_ret
          exact ⟨_, rfl, hb, HM.out⟩
        · obtain rfl : len = 26 := by omega
          go_wp2_with fail
          go_ret
          exact ⟨_, rfl, hb, HM.out⟩
end Go.Proofs.Ytpfogfglkknmoaa
