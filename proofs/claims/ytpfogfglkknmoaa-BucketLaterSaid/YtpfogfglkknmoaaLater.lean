/- BucketLater: the walk of the law. -/
import Derived.Test.YtpfogfglkknmoaaApart
import Derived.Test.YtpfogfglkknmoaaSame2
namespace Go.Proofs.Ytpfogfglkknmoaa
open Go.RowKit
namespace Later
set_option maxHeartbeats 8000000 in
theorem walk (A : Option Addr) (len c : Nat) (f : Nat → Int × Int) (hlc : len ≤ c) (hlen : len ≤ maxLen) (q0 q1 q2 q3 : Int) (w : World) (hs : Src w A len f) :
    Calls Try.prog 4 #[.slice A len c, .agg #[.int .i64 q0, .int .i64 q1, .int .i64 q2, .int .i64 q3]] w fun e w' => e = .returned (.bool true) ∧ Below w.heap.size w w' := by
  have HS := Lib.hid hs
  clear hs
  have hb255 := i64_and255 q2
  have hm0 := Int.emod_nonneg q2 (show (256 : Int) ≠ 0 by omega)
  have hm1 := Int.emod_lt_of_pos q2 (show (0 : Int) < 256 by omega)
  have hb127 := i64_and127 q3
  have hd0 := Int.emod_nonneg q3 (show (128 : Int) ≠ 0 by omega)
  have hd1 := Int.emod_lt_of_pos q3 (show (0 : Int) < 128 by omega)
  generalize q2 % 256 = t at *
  generalize q3 % 128 = d at *
  have hlenZ : (len : Int) ≤ 9223372036854775807 := by unfold maxLen at hlen; omega
  have hlcZ : (len : Int) ≤ (c : Int) := by omega
  have hv := (rowsP_valid f (min (min len 20) 26) (by omega)).to (show (127 : Int) ≤ 1000 by omega)
  have hrl := rowsP_length f (min (min len 20) 26)
  have hrows : ∀ W, Below w.heap.size w W → Calls Try.prog 11 #[.slice A (min len 20) c] W fun e w' => ∃ v', e = .returned v' ∧ Below W.heap.size W w' ∧ Made W.heap.size v' (rowsP f (min (min len 20) 26)) w' :=
    fun W hW => rows_any A (min len 20) c f (by omega) W ((HS.out.below hW).cut _ (by omega))
  generalize rowsP f (min (min len 20) 26) = r at *
  have hr20 : r.length ≤ 20 := by omega
  clear hrl
  have hkeya := fun W => key_any q0 W
  have hkeyb := fun W => key_any q1 W
  generalize keyP q0 = a at *
  generalize keyP q1 = b at *
  have hT : Time (127 + t) := by unfold Time; omega
  have hla := later hv a b (show (0 : Int) ≤ 127 + t by omega) (by omega) hr20
  have hmono := LeftP_mono hv.sorted a (show 127 + t ≤ 127 + t + d by omega)
  have hl1 := fun v W hW => Left_sl hv (by omega) (by omega) a (127 + t + d) (by unfold Time; omega) v W hW
  have hl0 := fun v W hW => Left_sl hv (by omega) (by omega) a (127 + t) hT v W hW
  have hvx := takeP_valid hv a (show (0 : Int) ≤ 127 + t by omega) (by omega)
  have hvz := takeP_valid hv b (show (0 : Int) ≤ 127 + t by omega) (by omega)
  have hlx := takeP_length_le (l := r) a (127 + t)
  have hlz := takeP_length_le (l := r) b (127 + t)
  have htx := fun v W hW => Take_any r hv (by omega) (by omega) a (127 + t) hT v W hW
  have htz := fun v W hW => Take_any r hv (by omega) (by omega) b (127 + t) hT v W hW
  simp only at hla
  generalize LeftP r a (127 + t) = L0 at *
  generalize LeftP r a (127 + t + d) = L1 at *
  have hll : ¬ L1 < L0 := by omega
  generalize (takeP r a (127 + t)).2 = e at *
  generalize (takeP r b (127 + t)).2 = g at *
  generalize (takeP r a (127 + t)).1 = x at *
  generalize (takeP r b (127 + t)).1 = z at *
  have hty := fun v W hW => Take_any x hvx (by omega) (by omega) b (127 + t) hT v W hW
  have htu := fun v W hW => Take_any z hvz (by omega) (by omega) a (127 + t) hT v W hW
  have hly := takeP_length_le (l := x) b (127 + t)
  have hlu := takeP_length_le (l := z) a (127 + t)
  generalize (takeP x b (127 + t)).2 = ff at *
  generalize (takeP x b (127 + t)).1 = y at *
  generalize (takeP z a (127 + t)).2 = hh at *
  generalize (takeP z a (127 + t)).1 = u at *
  have hsame := fun v1 v2 W h1 h2 => same_gen y u (by omega) (by omega) v1 v2 W h1 h2
  have hab := beq_str a b
  have HLA := Lib.hid hla
  clear hla hv hvx hvz hmono
  by_cases h20 : 20 < len
  · have h24Z : (20 : Int) < (len : Int) := by omega
    have h24c : (20 : Int) ≤ (c : Int) := by omega
    rw [show min len 20 = 20 from by omega] at hrows
    go_enter Try.func4, Try.ntmps4
    go_wp2_with (go_at_call 10; refine (awake_any _).mono ?_; rintro e' w1 ⟨rfl, hb1⟩)
    go_at_call 11
    refine (hrows _ (below_box2 hb1)).mono ?_
    rintro e' w2 ⟨v2, rfl, hb2, hm2⟩
    have hr2 := hm2.sl
    have hp1 : w.heap.size < w1.heap.size := Nat.lt_of_lt_of_le (by simp) hb1.size
    have c0 : w2.cell? ⟨w.heap.size, 0, none⟩ = some (.int .i64 q0) := (hb2.cell (p := ⟨w.heap.size, 0, none⟩) hp1).trans ((hb1.cell (p := ⟨w.heap.size, 0, none⟩) (by simp)).trans (by simp))
    have c1 : w2.cell? ⟨w.heap.size, 1, none⟩ = some (.int .i64 q1) := (hb2.cell (p := ⟨w.heap.size, 1, none⟩) hp1).trans ((hb1.cell (p := ⟨w.heap.size, 1, none⟩) (by simp)).trans (by simp))
    have c2 : w2.cell? ⟨w.heap.size, 2, none⟩ = some (.int .i64 q2) := (hb2.cell (p := ⟨w.heap.size, 2, none⟩) hp1).trans ((hb1.cell (p := ⟨w.heap.size, 2, none⟩) (by simp)).trans (by simp))
    have c3 : w2.cell? ⟨w.heap.size, 3, none⟩ = some (.int .i64 q3) := (hb2.cell (p := ⟨w.heap.size, 3, none⟩) hp1).trans ((hb1.cell (p := ⟨w.heap.size, 3, none⟩) (by simp)).trans (by simp))
    go_wp2_with fail
    go_at_call 12
    refine (hkeya _).mono ?_
    rintro e' w' ⟨rfl, rfl⟩
    go_wp2_with fail
    go_at_call 12
    refine (hkeyb _).mono ?_
    rintro e' w' ⟨rfl, rfl⟩
    go_wp2_with fail
    go_at_call 15
    refine (hl1 _ _ hr2).mono ?_
    rintro e' w3 ⟨rfl, hb3⟩
    have hr3 := hr2.below hb3
    clear c0 c1 c2 c3
    go_wp2_with fail
    go_at_call 15
    refine (hl0 _ _ hr3).mono ?_
    rintro e' w4 ⟨rfl, hb4⟩
    have hr4 := hr3.below hb4
    go_wp2_with fail
    go_at_call 13
    refine (htx _ _ hr4).mono ?_
    rintro e' w5 ⟨v5, rfl, hb5, hm5⟩
    have hr5 := hr4.below hb5
    go_wp2_with fail
    go_at_call 13
    refine (hty _ _ hm5.sl).mono ?_
    rintro e' w6 ⟨v6, rfl, hb6, hm6⟩
    have hr6 := hr5.below hb6
    go_wp2_with fail
    go_at_call 13
    refine (htz _ _ hr6).mono ?_
    rintro e' w7 ⟨v7, rfl, hb7, hm7⟩
    have hy7 := hm6.sl.below hb7
    go_wp2_with fail
    go_at_call 13
    refine (htu _ _ hm7.sl).mono ?_
    rintro e' w8 ⟨v8, rfl, hb8, hm8⟩
    have hy8 := hy7.below hb8
    go_wp2_with fail
    go_at_call 16
    refine (hsame _ _ _ hy8 hm8.sl).mono ?_
    rintro e' w9 ⟨v9, rfl, ⟨bb, rfl, hbb⟩, hb9⟩
    have hfin : Below w.heap.size w w9 := below_seq (below_seq (below_seq (below_seq (below_seq (below_seq (below_seq (below_seq (below_box2 hb1) hb2) hb3) hb4) hb5) hb6) hb7) hb8) hb9
    have HBB := Lib.hid hbb
    obtain ⟨ha1, ha2⟩ := HLA.out
    clear hbb hb1 hb2 hb3 hb4 hb5 hb6 hb7 hb8 hb9 hm2 hm5 hm6 hm7 hm8 hr2 hr3 hr4 hr5 hr6 hy7 hy8 hsame htx hty htz htu hl0 hl1 hrows
    have hz4 : (e = 0 ∧ ff = 0 ∧ g = 0 ∧ hh = 0 ∧ bb = true) ∨ ((e == 0) = false ∨ (ff == 0) = false ∨ (g == 0) = false ∨ (hh == 0) = false) := by
      by_cases z1 : e = 0
      · by_cases z2 : ff = 0
        · by_cases z3 : g = 0
          · by_cases z4 : hh = 0
            · exact Or.inl ⟨z1, z2, z3, z4, HBB.out (ha2 z1 z2 z3 z4)⟩
            · right; simp [z4]
          · right; simp [z3]
        · right; simp [z2]
      · right; simp [z1]
    clear ha2
    have hcode : (a.toList == b.toList) = true ∨ ((a.toList == b.toList) = false ∧ e = hh ∧ ff = g) := by
      rw [hab]
      by_cases h : a = b
      · left; exact decide_eq_true h
      · right; exact ⟨decide_eq_false h, ha1.resolve_left h⟩
    clear ha1 hab
    rcases hcode with hc | ⟨hc, rfl, rfl⟩
    all_goals
      rcases hz4 with ⟨rfl, h2, h3, h4, rfl⟩ | hz4
      · first | subst h2 | skip
        first | subst h3 | skip
        first | subst h4 | skip
        clear HBB
        go_wp2_with fail
        go_ret
        exact ⟨by first | rfl | simp_all, hfin⟩
      · clear HBB
        rcases hz4 with hz | hz | hz | hz
        all_goals
          go_wp2_with fail
          all_goals
            go_ret
            exact ⟨by first | rfl | simp_all, hfin⟩
  · have h24Z : ¬ (20 : Int) < (len : Int) := by omega
    rw [show min len 20 = len from by omega] at hrows
    go_enter Try.func4, Try.ntmps4
    go_wp2_with (go_at_call 10; refine (awake_any _).mono ?_; rintro e' w1 ⟨rfl, hb1⟩)
    go_at_call 11
    refine (hrows _ (below_box2 hb1)).mono ?_
    rintro e' w2 ⟨v2, rfl, hb2, hm2⟩
    have hr2 := hm2.sl
    have hp1 : w.heap.size < w1.heap.size := Nat.lt_of_lt_of_le (by simp) hb1.size
    have c0 : w2.cell? ⟨w.heap.size, 0, none⟩ = some (.int .i64 q0) := (hb2.cell (p := ⟨w.heap.size, 0, none⟩) hp1).trans ((hb1.cell (p := ⟨w.heap.size, 0, none⟩) (by simp)).trans (by simp))
    have c1 : w2.cell? ⟨w.heap.size, 1, none⟩ = some (.int .i64 q1) := (hb2.cell (p := ⟨w.heap.size, 1, none⟩) hp1).trans ((hb1.cell (p := ⟨w.heap.size, 1, none⟩) (by simp)).trans (by simp))
    have c2 : w2.cell? ⟨w.heap.size, 2, none⟩ = some (.int .i64 q2) := (hb2.cell (p := ⟨w.heap.size, 2, none⟩) hp1).trans ((hb1.cell (p := ⟨w.heap.size, 2, none⟩) (by simp)).trans (by simp))
    have c3 : w2.cell? ⟨w.heap.size, 3, none⟩ = some (.int .i64 q3) := (hb2.cell (p := ⟨w.heap.size, 3, none⟩) hp1).trans ((hb1.cell (p := ⟨w.heap.size, 3, none⟩) (by simp)).trans (by simp))
    go_wp2_with fail
    go_at_call 12
    refine (hkeya _).mono ?_
    rintro e' w' ⟨rfl, rfl⟩
    go_wp2_with fail
    go_at_call 12
    refine (hkeyb _).mono ?_
    rintro e' w' ⟨rfl, rfl⟩
    go_wp2_with fail
    go_at_call 15
    refine (hl1 _ _ hr2).mono ?_
    rintro e' w3 ⟨rfl, hb3⟩
    have hr3 := hr2.below hb3
    clear c0 c1 c2 c3
    go_wp2_with fail
    go_at_call 15
    refine (hl0 _ _ hr3).mono ?_
    rintro e' w4 ⟨rfl, hb4⟩
    have hr4 := hr3.below hb4
    go_wp2_with fail
    go_at_call 13
    refine (htx _ _ hr4).mono ?_
    rintro e' w5 ⟨v5, rfl, hb5, hm5⟩
    have hr5 := hr4.below hb5
    go_wp2_with fail
    go_at_call 13
    refine (hty _ _ hm5.sl).mono ?_
    rintro e' w6 ⟨v6, rfl, hb6, hm6⟩
    have hr6 := hr5.below hb6
    go_wp2_with fail
    go_at_call 13
    refine (htz _ _ hr6).mono ?_
    rintro e' w7 ⟨v7, rfl, hb7, hm7⟩
    have hy7 := hm6.sl.below hb7
    go_wp2_with fail
    go_at_call 13
    refine (htu _ _ hm7.sl).mono ?_
    rintro e' w8 ⟨v8, rfl, hb8, hm8⟩
    have hy8 := hy7.below hb8
    go_wp2_with fail
    go_at_call 16
    refine (hsame _ _ _ hy8 hm8.sl).mono ?_
    rintro e' w9 ⟨v9, rfl, ⟨bb, rfl, hbb⟩, hb9⟩
    have hfin : Below w.heap.size w w9 := below_seq (below_seq (below_seq (below_seq (below_seq (below_seq (below_seq (below_seq (below_box2 hb1) hb2) hb3) hb4) hb5) hb6) hb7) hb8) hb9
    have HBB := Lib.hid hbb
    obtain ⟨ha1, ha2⟩ := HLA.out
    clear hbb hb1 hb2 hb3 hb4 hb5 hb6 hb7 hb8 hb9 hm2 hm5 hm6 hm7 hm8 hr2 hr3 hr4 hr5 hr6 hy7 hy8 hsame htx hty htz htu hl0 hl1 hrows
    have hz4 : (e = 0 ∧ ff = 0 ∧ g = 0 ∧ hh = 0 ∧ bb = true) ∨ ((e == 0) = false ∨ (ff == 0) = false ∨ (g == 0) = false ∨ (hh == 0) = false) := by
      by_cases z1 : e = 0
      · by_cases z2 : ff = 0
        · by_cases z3 : g = 0
          · by_cases z4 : hh = 0
            · exact Or.inl ⟨z1, z2, z3, z4, HBB.out (ha2 z1 z2 z3 z4)⟩
            · right; simp [z4]
          · right; simp [z3]
        · right; simp [z2]
      · right; simp [z1]
    clear ha2
    have hcode : (a.toList == b.toList) = true ∨ ((a.toList == b.toList) = false ∧ e = hh ∧ ff = g) := by
      rw [hab]
      by_cases h : a = b
      · left; exact decide_eq_true h
      · right; exact ⟨decide_eq_false h, ha1.resolve_left h⟩
    clear ha1 hab
    rcases hcode with hc | ⟨hc, rfl, rfl⟩
    all_goals
      rcases hz4 with ⟨rfl, h2, h3, h4, rfl⟩ | hz4
      · first | subst h2 | skip
        first | subst h3 | skip
        first | subst h4 | skip
        clear HBB
        go_wp2_with fail
        go_ret
        exact ⟨by first | rfl | simp_all, hfin⟩
      · clear HBB
        rcases hz4 with hz | hz | hz | hz
        all_goals
          go_wp2_with fail
          all_goals
            go_ret
            exact ⟨by first | rfl | simp_all, hfin⟩
end Later
end Go.Proofs.Ytpfogfglkknmoaa
