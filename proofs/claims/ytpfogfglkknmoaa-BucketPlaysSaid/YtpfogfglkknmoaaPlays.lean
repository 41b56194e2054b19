/- BucketPlays: the walk of the law. -/
import Derived.Test.YtpfogfglkknmoaaRtake
namespace Go.Proofs.Ytpfogfglkknmoaa
open Go.RowKit
namespace Plays
structure St (now : Int) (l : List Bk) (k : Nat) : Prop where
  now0 : 0 ≤ now ∧ now ≤ 63 * k
  valid : Valid now l
  len : l.length ≤ 24
theorem St.start : St 0 [] 0 := ⟨by omega, ⟨List.Pairwise.nil, by simp, by simp, by simp⟩, by simp⟩
theorem St.on {now : Int} {l : List Bk} {k : Nat} (h : St now l k) (d : Int) (hd : 0 ≤ d ∧ d ≤ 63) : St (now + d) l (k + 1) :=
  ⟨by have := h.now0; push_cast; omega, h.valid.later (by omega), h.len⟩
theorem St.take {now : Int} {l : List Bk} {k : Nat} (h : St now l k) (key : ByteArray) : St now (takeP l key now).1 k :=
  ⟨h.now0, takeP_valid h.valid _ h.now0.1 (Int.le_refl _), takeP_length _ _ h.len⟩

set_option maxRecDepth 100000 in
set_option maxHeartbeats 4000000 in
theorem walk (A : Option Addr) (len c : Nat) (f : Nat → Int × Int) (_hlc : len ≤ c) (hlen : len ≤ maxLen) (w : World) (hs : Src w A len f) :
    Calls Try.prog 7 #[.slice A len c] w fun e w' => e = .returned (.bool true) ∧ Below w.heap.size w w' := by
  have HS := Lib.hid hs
  clear hs
  have hlen' : (len : Int) ≤ 9223372036854775807 := by unfold maxLen at hlen; omega
  obtain ⟨n, hn⟩ : ∃ n, n = min len 80 := ⟨_, rfl⟩
  have HN := Lib.hid hn
  have hn1 : n ≤ len := by omega
  have hn2 : n ≤ 80 := by omega
  clear hn
  go_enter Try.func7, Try.ntmps7
  go_wp2_with (go_at_call 10; refine (awake_any _).mono ?_; rintro e w1 ⟨rfl, hb1⟩)
  go_loopw [4, 5, 6, 7, 8, 9, 10, 11, 12, 13] (fun v4 v5 v6 v7 _ _ _ _ _ _ wr => ∃ (k : Nat) (now : Int) (l : List Bk), k ≤ n ∧ v7 = .int .i64 (k : Int) ∧ v6 = .int .i64 now ∧ Sl v4 l wr ∧ Sl v5 l wr ∧ Hid (St now l k) ∧ Below w.heap.size w wr)
    (fun _ _ _ v7 _ _ _ _ _ _ _ => n - (intOf v7).toNat)
  case atStart => exact ⟨0, 0, [], by omega, rfl, rfl, nil_sl _, nil_sl _, Lib.hid St.start, hb1⟩
  case round =>
    obtain ⟨k, now, l, hk, rfl, rfl, hsa, hsb, HST, hb⟩ := hrel
    clear hb1
    by_cases hlt : k < n
    · obtain ⟨ad, rfl, hg, c0, c1⟩ := HS.out k (by omega)
      have hp0 : (ad.add (k * 2)).block < w.heap.size := by rw [block_of_add]; exact hg
      replace c0 := (hb.cell (by exact hp0)).trans c0
      have c1' : wr.cell? ⟨(ad.add (k * 2)).block, (ad.add (k * 2)).off + 1, none⟩ = some (.int .i64 (f k).2) := (hb.cell (by exact hp0)).trans c1
      clear c1
      have hkl : (k : Int) < (len : Int) := by omega
      have hk60 : (k : Int) < 80 := by omega
      have hk0 : (0 : Int) ≤ (k : Int) := by omega
      have hb63 := i64_and63 (f k).2
      have hd0 := Int.emod_nonneg (f k).2 (show (64 : Int) ≠ 0 by omega)
      have hd1 := Int.emod_lt_of_pos (f k).2 (show (0 : Int) < 64 by omega)
      generalize (f k).2 % 64 = d at *
      generalize (f k).1 = x at *
      generalize (f k).2 = y at *
      have hst := HST.out.on d (by omega)
      have hnow := hst.now0
      have hT : Time (now + d) := by unfold Time; omega
      have htk := fun v W hW => Take_any l hst.valid (by omega) (by have := hst.len; omega) (keyP x) (now + d) hT v W hW
      have hrtk := fun v W hW => rTake_any l hst.valid (by omega) hst.len (keyP x) (now + d) hT v W hW
      have hkey := fun W => key_any x W
      have hst2 := hst.take (keyP x)
      generalize (takeP l (keyP x) (now + d)).2 = cd at *
      generalize (takeP l (keyP x) (now + d)).1 = l2 at *
      have hl2 := hst2.len
      have hsame := fun v1 v2 W h1 h2 => same_any l2 (by omega) v1 v2 W h1 h2
      have hck := fun v W hW => Check_any l2 hst2.valid (by omega) hl2 v W hW
      have hla := fun v W hW => Left_sl hst2.valid (by omega) (by omega) (keyP x) (now + d) hT v W hW
      have hlb := fun v W hW => rLeft_any l2 (hst2.valid.fit (by omega)) (by omega) (keyP x) (now + d) hT v W hW
      have HST2 := Lib.hid hst2
      generalize LeftP l2 (keyP x) (now + d) = q at *
      generalize keyP x = ky at *
      clear hst hst2 HST
      go_wp2_with fail
      go_at_call 12
      refine (hkey _).mono ?_
      rintro e w' ⟨rfl, rfl⟩
      go_wp2_with fail
      go_at_call 13
      refine (htk _ _ hsa).mono ?_
      rintro e w3 ⟨v3, rfl, hb3, hm3⟩
      have hsb3 := hsb.below hb3
      have hx3 := hm3.sl
      go_wp2_with fail
      go_at_call 19
      refine (hrtk _ _ hsb3).mono ?_
      rintro e w4 ⟨v4, rfl, hb4, hy4⟩
      have hx4 := hx3.below hb4
      go_wp2_with fail
      go_at_call 16
      refine (hsame _ _ _ hx4 hy4).mono ?_
      rintro e w5 ⟨rfl, hb5⟩
      have hx5 := hx4.below hb5
      have hy5 := hy4.below hb5
      go_wp2_with fail
      go_at_call 20
      refine (hck _ _ hx5).mono ?_
      rintro e w6 ⟨rfl, hb6⟩
      have hx6 := hx5.below hb6
      have hy6 := hy5.below hb6
      go_wp2_with fail
      go_at_call 15
      refine (hla _ _ hx6).mono ?_
      rintro e w7 ⟨rfl, hb7⟩
      have hx7 := hx6.below hb7
      have hy7 := hy6.below hb7
      go_wp2_with fail
      go_at_call 21
      refine (hlb _ _ hy7).mono ?_
      rintro e w8 ⟨rfl, hb8⟩
      have hx8 := hx7.below hb8
      have hy8 := hy7.below hb8
      have hbn : Below w.heap.size w w8 := below_seq (below_seq (below_seq (below_seq (below_seq (below_seq hb hb3) hb4) hb5) hb6) hb7) hb8
      go_wp2_with fail
      go_roundw
      case rel => exact ⟨k + 1, now + d, l2, by omega, by go_num, rfl, hx8, hy8, HST2, hbn⟩
      case measure => simp [intOf]; omega
    · have hcase : (¬ (k : Int) < (len : Int)) ∨ ((k : Int) < (len : Int) ∧ ¬ (k : Int) < 80) := by have := HN.out; omega
      rcases hcase with hca | ⟨hca, hcb⟩
      · go_wp2_with fail
        go_ret
        exact ⟨rfl, hb⟩
      · go_wp2_with fail
        go_ret
        exact ⟨rfl, hb⟩
end Plays
end Go.Proofs.Ytpfogfglkknmoaa
