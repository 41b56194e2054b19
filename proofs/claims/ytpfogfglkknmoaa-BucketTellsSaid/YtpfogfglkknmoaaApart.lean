/- BucketApart: the walk of the law. -/
import Derived.Test.YtpfogfglkknmoaaSls
import Derived.Test.YtpfogfglkknmoaaSame
namespace Go.Proofs.Ytpfogfglkknmoaa
open Go.RowKit
theorem Sweep_sl {T : Int} {r : List Bk} (hv : Valid T r) (hT : T ≤ 1000000000000) (hlen : r.length ≤ 100) (now : Int) (hn : Time now) (v : Value) (w : World) (hs : Sl v r w) :
    Calls Try.prog 14 #[v, .int .i64 now] w fun e w' => ∃ v', e = .returned v' ∧ Below w.heap.size w w' ∧ Made w.heap.size v' (sweepP r now) w' :=
  Sweep_any r (hv.fit hT) (by omega) now hn v w hs
theorem beq_str (a b : ByteArray) : (a.toList == b.toList) = decide (a = b) := by
  rw [Lib.toList_data, Lib.toList_data]
  by_cases h : a = b
  · subst h; simp
  · rw [decide_eq_false h]
    simp only [beq_eq_false_iff_ne, ne_eq]
    intro e
    exact h (kl_inj e)
theorem Valid.to {T U : Int} {l : List Bk} (h : Valid T l) (hT : T ≤ U) : Valid U l := h.later hT
namespace Apart
set_option maxHeartbeats 8000000 in
theorem walk (A : Option Addr) (len c : Nat) (f : Nat → Int × Int) (hlc : len ≤ c) (hlen : len ≤ maxLen) (q0 q1 q2 : Int) (w : World) (hs : Src w A len f) :
    Calls Try.prog 3 #[.slice A len c, .agg #[.int .i64 q0, .int .i64 q1, .int .i64 q2]] w fun e w' => e = .returned (.bool true) ∧ Below w.heap.size w w' := by
  have HS := Lib.hid hs
  clear hs
  have hb255 := i64_and255 q2
  have hm0 := Int.emod_nonneg q2 (show (256 : Int) ≠ 0 by omega)
  have hm1 := Int.emod_lt_of_pos q2 (show (0 : Int) < 256 by omega)
  generalize q2 % 256 = t at *
  have hlenZ : (len : Int) ≤ 9223372036854775807 := by unfold maxLen at hlen; omega
  have hlcZ : (len : Int) ≤ (c : Int) := by omega
  have hv := (rowsP_valid f (min (min len 20) 26) (by omega)).to (show (127 : Int) ≤ 255 by omega)
  have hrl := rowsP_length f (min (min len 20) 26)
  have hrows : ∀ W, Below w.heap.size w W → Calls Try.prog 11 #[.slice A (min len 20) c] W fun e w' => ∃ v', e = .returned v' ∧ Below W.heap.size W w' ∧ Made W.heap.size v' (rowsP f (min (min len 20) 26)) w' :=
    fun W hW => rows_any A (min len 20) c f (by omega) W ((HS.out.below hW).cut _ (by omega))
  generalize rowsP f (min (min len 20) 26) = r at *
  have hr20 : r.length ≤ 20 := by omega
  clear hrl
  have hkeya := fun W => key_any q0 W
  have hkeyb := fun W => key_any q1 W
  have hane := keyP_ne q0
  generalize keyP q0 = a at *
  generalize keyP q1 = b at *
  have hT : Time t := by unfold Time; omega
  have hap := apart hv a b hane hm0 (by omega) hr20
  have htake := fun v W hW => Take_any r hv (by omega) (by omega) a t hT v W hW
  have hsweep := fun v W hW => Sweep_sl hv (by omega) (by omega) t hT v W hW
  have hla := fun v W hW => Left_sl hv (by omega) (by omega) a t hT v W hW
  have hlb := fun v W hW => Left_sl hv (by omega) (by omega) b t hT v W hW
  have hsl := sweepP_length r t
  have hsa := fun v W hW => Left_sl (sweepP_valid hv t) (by omega) (by omega) a t hT v W hW
  have hsb := fun v W hW => Left_sl (sweepP_valid hv t) (by omega) (by omega) b t hT v W hW
  rw [LeftP_sweep hv.sorted] at hsa hsb
  have hbd := LeftP_bounds hv a t
  have hxl := takeP_length_le (l := r) a t
  have hvx := takeP_valid hv a hm0 (show t ≤ 255 by omega)
  have hxa := fun v W hW => Left_sl hvx (by omega) (by omega) a t hT v W hW
  have hxb := fun v W hW => Left_sl hvx (by omega) (by omega) b t hT v W hW
  have hsame := fun v1 v2 W h1 h2 => same_any r (by omega) v1 v2 W h1 h2
  clear hvx hv hane
  generalize sweepP r t = s at *
  generalize LeftP r a t = La at *
  generalize LeftP r b t = Lb at *
  generalize (takeP r a t).1 = x at *
  generalize (takeP r a t).2 = err at *
  generalize hLxa : LeftP x a t = Lxa at *
  generalize hLxb : LeftP x b t = Lxb at *
  have hlz : ¬ (s.length : Int) > (r.length : Int) := by omega
  have hlz' : decide ((r.length : Int) < (s.length : Int)) = false := decide_eq_false (by omega)
  by_cases h20 : 20 < len
  · have h24Z : (20 : Int) < (len : Int) := by omega
    have h24c : (20 : Int) ≤ (c : Int) := by omega
    rw [show min len 20 = 20 from by omega] at hrows
    by_cases he : err = 0
    · obtain ⟨h1, h2⟩ := hap.2 he
      subst he
      subst h1
      have hw1 : IntKind.i64.wrap (La - 1) = La - 1 := IntWalk.i64_in _ (by omega)
      have hab := beq_str a b
      clear hap
      by_cases hk : a = b
      · rw [decide_eq_true hk] at hab
        clear hk h2
        go_enter Try.func3, Try.ntmps3
        go_wp2_with (go_at_call 10; refine (awake_any _).mono ?_; rintro e w1 ⟨rfl, hb1⟩)
        go_at_call 11
        refine (hrows _ (below_box2 hb1)).mono ?_
        rintro e w2 ⟨v2, rfl, hb2, hm2⟩
        have hr2 := hm2.sl
        have hp1 : w.heap.size < w1.heap.size := Nat.lt_of_lt_of_le (by simp) hb1.size
        have c0 : w2.cell? ⟨w.heap.size, 0, none⟩ = some (.int .i64 q0) := (hb2.cell (p := ⟨w.heap.size, 0, none⟩) hp1).trans ((hb1.cell (p := ⟨w.heap.size, 0, none⟩) (by simp)).trans (by simp))
        have c1 : w2.cell? ⟨w.heap.size, 1, none⟩ = some (.int .i64 q1) := (hb2.cell (p := ⟨w.heap.size, 1, none⟩) hp1).trans ((hb1.cell (p := ⟨w.heap.size, 1, none⟩) (by simp)).trans (by simp))
        have c2 : w2.cell? ⟨w.heap.size, 2, none⟩ = some (.int .i64 q2) := (hb2.cell (p := ⟨w.heap.size, 2, none⟩) hp1).trans ((hb1.cell (p := ⟨w.heap.size, 2, none⟩) (by simp)).trans (by simp))
        go_wp2_with fail
        go_at_call 12
        refine (hkeya _).mono ?_
        rintro e w' ⟨rfl, rfl⟩
        go_wp2_with fail
        go_at_call 12
        refine (hkeyb _).mono ?_
        rintro e w' ⟨rfl, rfl⟩
        clear c0 c1 c2
        go_wp2_with fail
        go_at_call 13
        refine (htake _ _ hr2).mono ?_
        rintro e w3 ⟨v3, rfl, hb3, hm3⟩
        have hx3 := hm3.sl
        have hr3 := hr2.below hb3
        go_wp2_with fail
        go_at_call 14
        refine (hsweep _ _ hr3).mono ?_
        rintro e w4 ⟨v4, rfl, hb4, hm4⟩
        have hs4 := hm4.sl
        have hr4 := hr3.below hb4
        have hx4 := hx3.below hb4
        go_wp2_with fail
        go_at_call 15
        refine (hsa _ _ hs4).mono ?_
        rintro e w5 ⟨rfl, hb5⟩
        have hr5 := hr4.below hb5
        go_wp2_with fail
        go_at_call 15
        refine (hla _ _ hr5).mono ?_
        rintro e w6 ⟨rfl, hb6⟩
        have hr6 := hr5.below hb6
        have hs6 := (hs4.below hb5).below hb6
        go_wp2_with fail
        go_at_call 15
        refine (hsb _ _ hs6).mono ?_
        rintro e w7 ⟨rfl, hb7⟩
        have hr7 := hr6.below hb7
        have hs7 := hs6.below hb7
        go_wp2_with fail
        go_at_call 15
        refine (hlb _ _ hr7).mono ?_
        rintro e w8 ⟨rfl, hb8⟩
        have hr8 := hr7.below hb8
        have hs8 := hs7.below hb8
        have hx8 := (((hx4.below hb5).below hb6).below hb7).below hb8
        have hbb := below_seq (below_seq (below_seq (below_seq (below_seq (below_seq (below_seq (below_box2 hb1) hb2) hb3) hb4) hb5) hb6) hb7) hb8
        clear hb1 hb2 hb3 hb4 hb5 hb6 hb7 hb8 hm2 hm3 hm4 hr2 hr3 hr4 hr5 hr6 hr7 hs4 hs6 hs7 hx3 hx4
        obtain ⟨A4, c4, rfl, hd1, hd2, -, hd3⟩ := hs8
        obtain ⟨A2, c2, rfl, hd4, hd5, -, hd6⟩ := id hr8
        clear hd1 hd2 hd3 hd4 hd5 hd6
        go_wp2_with fail
        go_at_call 15
        refine (hxa _ _ hx8).mono ?_
        rintro e w9 ⟨rfl, hb9⟩
        go_wp2_with fail
        go_at_call 15
        refine (hla _ _ (hr8.below hb9)).mono ?_
        rintro e w10 ⟨rfl, hb10⟩
        go_wp2_with fail
        go_ret
        exact ⟨rfl, below_seq (below_seq hbb hb9) hb10⟩
      · rw [decide_eq_false hk] at hab
        have h3 := h2.resolve_left hk
        subst h3
        clear hk h2
        go_enter Try.func3, Try.ntmps3
        go_wp2_with (go_at_call 10; refine (awake_any _).mono ?_; rintro e w1 ⟨rfl, hb1⟩)
        go_at_call 11
        refine (hrows _ (below_box2 hb1)).mono ?_
        rintro e w2 ⟨v2, rfl, hb2, hm2⟩
        have hr2 := hm2.sl
        have hp1 : w.heap.size < w1.heap.size := Nat.lt_of_lt_of_le (by simp) hb1.size
        have c0 : w2.cell? ⟨w.heap.size, 0, none⟩ = some (.int .i64 q0) := (hb2.cell (p := ⟨w.heap.size, 0, none⟩) hp1).trans ((hb1.cell (p := ⟨w.heap.size, 0, none⟩) (by simp)).trans (by simp))
        have c1 : w2.cell? ⟨w.heap.size, 1, none⟩ = some (.int .i64 q1) := (hb2.cell (p := ⟨w.heap.size, 1, none⟩) hp1).trans ((hb1.cell (p := ⟨w.heap.size, 1, none⟩) (by simp)).trans (by simp))
        have c2 : w2.cell? ⟨w.heap.size, 2, none⟩ = some (.int .i64 q2) := (hb2.cell (p := ⟨w.heap.size, 2, none⟩) hp1).trans ((hb1.cell (p := ⟨w.heap.size, 2, none⟩) (by simp)).trans (by simp))
        go_wp2_with fail
        go_at_call 12
        refine (hkeya _).mono ?_
        rintro e w' ⟨rfl, rfl⟩
        go_wp2_with fail
        go_at_call 12
        refine (hkeyb _).mono ?_
        rintro e w' ⟨rfl, rfl⟩
        clear c0 c1 c2
        go_wp2_with fail
        go_at_call 13
        refine (htake _ _ hr2).mono ?_
        rintro e w3 ⟨v3, rfl, hb3, hm3⟩
        have hx3 := hm3.sl
        have hr3 := hr2.below hb3
        go_wp2_with fail
        go_at_call 14
        refine (hsweep _ _ hr3).mono ?_
        rintro e w4 ⟨v4, rfl, hb4, hm4⟩
        have hs4 := hm4.sl
        have hr4 := hr3.below hb4
        have hx4 := hx3.below hb4
        go_wp2_with fail
        go_at_call 15
        refine (hsa _ _ hs4).mono ?_
        rintro e w5 ⟨rfl, hb5⟩
        have hr5 := hr4.below hb5
        go_wp2_with fail
        go_at_call 15
        refine (hla _ _ hr5).mono ?_
        rintro e w6 ⟨rfl, hb6⟩
        have hr6 := hr5.below hb6
        have hs6 := (hs4.below hb5).below hb6
        go_wp2_with fail
        go_at_call 15
        refine (hsb _ _ hs6).mono ?_
        rintro e w7 ⟨rfl, hb7⟩
        have hr7 := hr6.below hb7
        have hs7 := hs6.below hb7
        go_wp2_with fail
        go_at_call 15
        refine (hlb _ _ hr7).mono ?_
        rintro e w8 ⟨rfl, hb8⟩
        have hr8 := hr7.below hb8
        have hs8 := hs7.below hb8
        have hx8 := (((hx4.below hb5).below hb6).below hb7).below hb8
        have hbb := below_seq (below_seq (below_seq (below_seq (below_seq (below_seq (below_seq (below_box2 hb1) hb2) hb3) hb4) hb5) hb6) hb7) hb8
        clear hb1 hb2 hb3 hb4 hb5 hb6 hb7 hb8 hm2 hm3 hm4 hr2 hr3 hr4 hr5 hr6 hr7 hs4 hs6 hs7 hx3 hx4
        obtain ⟨A4, c4, rfl, hd1, hd2, -, hd3⟩ := hs8
        obtain ⟨A2, c2, rfl, hd4, hd5, -, hd6⟩ := id hr8
        clear hd1 hd2 hd3 hd4 hd5 hd6
        go_wp2_with fail
        go_at_call 15
        refine (hxa _ _ hx8).mono ?_
        rintro e w9 ⟨rfl, hb9⟩
        go_wp2_with fail
        go_at_call 15
        refine (hla _ _ (hr8.below hb9)).mono ?_
        rintro e w10 ⟨rfl, hb10⟩
        go_wp2_with fail
        go_at_call 15
        refine (hxb _ _ ((hx8.below hb9).below hb10)).mono ?_
        rintro e w11 ⟨rfl, hb11⟩
        go_wp2_with fail
        go_at_call 15
        refine (hlb _ _ (((hr8.below hb9).below hb10).below hb11)).mono ?_
        rintro e w12 ⟨rfl, hb12⟩
        go_wp2_with fail
        go_ret
        exact ⟨rfl, below_seq (below_seq (below_seq (below_seq hbb hb9) hb10) hb11) hb12⟩
    · obtain ⟨h1, h2, h3⟩ := hap.1 he
      subst h1 h2 h3
      clear hap he
      go_enter Try.func3, Try.ntmps3
      go_wp2_with (go_at_call 10; refine (awake_any _).mono ?_; rintro e w1 ⟨rfl, hb1⟩)
      go_at_call 11
      refine (hrows _ (below_box2 hb1)).mono ?_
      rintro e w2 ⟨v2, rfl, hb2, hm2⟩
      have hr2 := hm2.sl
      have hp1 : w.heap.size < w1.heap.size := Nat.lt_of_lt_of_le (by simp) hb1.size
      have c0 : w2.cell? ⟨w.heap.size, 0, none⟩ = some (.int .i64 q0) := (hb2.cell (p := ⟨w.heap.size, 0, none⟩) hp1).trans ((hb1.cell (p := ⟨w.heap.size, 0, none⟩) (by simp)).trans (by simp))
      have c1 : w2.cell? ⟨w.heap.size, 1, none⟩ = some (.int .i64 q1) := (hb2.cell (p := ⟨w.heap.size, 1, none⟩) hp1).trans ((hb1.cell (p := ⟨w.heap.size, 1, none⟩) (by simp)).trans (by simp))
      have c2 : w2.cell? ⟨w.heap.size, 2, none⟩ = some (.int .i64 q2) := (hb2.cell (p := ⟨w.heap.size, 2, none⟩) hp1).trans ((hb1.cell (p := ⟨w.heap.size, 2, none⟩) (by simp)).trans (by simp))
      go_wp2_with fail
      go_at_call 12
      refine (hkeya _).mono ?_
      rintro e w' ⟨rfl, rfl⟩
      go_wp2_with fail
      go_at_call 12
      refine (hkeyb _).mono ?_
      rintro e w' ⟨rfl, rfl⟩
      clear c0 c1 c2
      go_wp2_with fail
      go_at_call 13
      refine (htake _ _ hr2).mono ?_
      rintro e w3 ⟨v3, rfl, hb3, hm3⟩
      have hx3 := hm3.sl
      have hr3 := hr2.below hb3
      go_wp2_with fail
      go_at_call 14
      refine (hsweep _ _ hr3).mono ?_
      rintro e w4 ⟨v4, rfl, hb4, hm4⟩
      have hs4 := hm4.sl
      have hr4 := hr3.below hb4
      have hx4 := hx3.below hb4
      go_wp2_with fail
      go_at_call 15
      refine (hsa _ _ hs4).mono ?_
      rintro e w5 ⟨rfl, hb5⟩
      have hr5 := hr4.below hb5
      go_wp2_with fail
      go_at_call 15
      refine (hla _ _ hr5).mono ?_
      rintro e w6 ⟨rfl, hb6⟩
      have hr6 := hr5.below hb6
      have hs6 := (hs4.below hb5).below hb6
      go_wp2_with fail
      go_at_call 15
      refine (hsb _ _ hs6).mono ?_
      rintro e w7 ⟨rfl, hb7⟩
      have hr7 := hr6.below hb7
      have hs7 := hs6.below hb7
      go_wp2_with fail
      go_at_call 15
      refine (hlb _ _ hr7).mono ?_
      rintro e w8 ⟨rfl, hb8⟩
      have hr8 := hr7.below hb8
      have hs8 := hs7.below hb8
      have hx8 := (((hx4.below hb5).below hb6).below hb7).below hb8
      have hbb := below_seq (below_seq (below_seq (below_seq (below_seq (below_seq (below_seq (below_box2 hb1) hb2) hb3) hb4) hb5) hb6) hb7) hb8
      clear hb1 hb2 hb3 hb4 hb5 hb6 hb7 hb8 hm2 hm3 hm4 hr2 hr3 hr4 hr5 hr6 hr7 hs4 hs6 hs7 hx3 hx4
      obtain ⟨A4, c4, rfl, hd1, hd2, -, hd3⟩ := hs8
      obtain ⟨A2, c2, rfl, hd4, hd5, -, hd6⟩ := id hr8
      clear hd1 hd2 hd3 hd4 hd5 hd6
      go_wp2_with fail
      go_at_call 16
      refine (hsame _ _ _ hx8 hr8).mono ?_
      rintro e w9 ⟨rfl, hb9⟩
      go_wp2_with fail
      go_at_call 15
      refine (hla _ _ (hr8.below hb9)).mono ?_
      rintro e w10 ⟨rfl, hb10⟩
      go_wp2_with fail
      go_ret
      exact ⟨rfl, below_seq (below_seq hbb hb9) hb10⟩
  · have h24Z : ¬ (20 : Int) < (len : Int) := by omega
    rw [show min len 20 = len from by omega] at hrows
    by_cases he : err = 0
    · obtain ⟨h1, h2⟩ := hap.2 he
      subst he
      subst h1
      have hw1 : IntKind.i64.wrap (La - 1) = La - 1 := IntWalk.i64_in _ (by omega)
      have hab := beq_str a b
      clear hap
      by_cases hk : a = b
      · rw [decide_eq_true hk] at hab
        clear hk h2
        go_enter Try.func3, Try.ntmps3
        go_wp2_with (go_at_call 10; refine (awake_any _).mono ?_; rintro e w1 ⟨rfl, hb1⟩)
        go_at_call 11
        refine (hrows _ (below_box2 hb1)).mono ?_
        rintro e w2 ⟨v2, rfl, hb2, hm2⟩
        have hr2 := hm2.sl
        have hp1 : w.heap.size < w1.heap.size := Nat.lt_of_lt_of_le (by simp) hb1.size
        have c0 : w2.cell? ⟨w.heap.size, 0, none⟩ = some (.int .i64 q0) := (hb2.cell (p := ⟨w.heap.size, 0, none⟩) hp1).trans ((hb1.cell (p := ⟨w.heap.size, 0, none⟩) (by simp)).trans (by simp))
        have c1 : w2.cell? ⟨w.heap.size, 1, none⟩ = some (.int .i64 q1) := (hb2.cell (p := ⟨w.heap.size, 1, none⟩) hp1).trans ((hb1.cell (p := ⟨w.heap.size, 1, none⟩) (by simp)).trans (by simp))
        have c2 : w2.cell? ⟨w.heap.size, 2, none⟩ = some (.int .i64 q2) := (hb2.cell (p := ⟨w.heap.size, 2, none⟩) hp1).trans ((hb1.cell (p := ⟨w.heap.size, 2, none⟩) (by simp)).trans (by simp))
        go_wp2_with fail
        go_at_call 12
        refine (hkeya _).mono ?_
        rintro e w' ⟨rfl, rfl⟩
        go_wp2_with fail
        go_at_call 12
        refine (hkeyb _).mono ?_
        rintro e w' ⟨rfl, rfl⟩
        clear c0 c1 c2
        go_wp2_with fail
        go_at_call 13
        refine (htake _ _ hr2).mono ?_
        rintro e w3 ⟨v3, rfl, hb3, hm3⟩
        have hx3 := hm3.sl
        have hr3 := hr2.below hb3
        go_wp2_with fail
        go_at_call 14
        refine (hsweep _ _ hr3).mono ?_
        rintro e w4 ⟨v4, rfl, hb4, hm4⟩
        have hs4 := hm4.sl
        have hr4 := hr3.below hb4
        have hx4 := hx3.below hb4
        go_wp2_with fail
        go_at_call 15
        refine (hsa _ _ hs4).mono ?_
        rintro e w5 ⟨rfl, hb5⟩
        have hr5 := hr4.below hb5
        go_wp2_with fail
        go_at_call 15
        refine (hla _ _ hr5).mono ?_
        rintro e w6 ⟨rfl, hb6⟩
        have hr6 := hr5.below hb6
        have hs6 := (hs4.below hb5).below hb6
        go_wp2_with fail
        go_at_call 15
        refine (hsb _ _ hs6).mono ?_
        rintro e w7 ⟨rfl, hb7⟩
        have hr7 := hr6.below hb7
        have hs7 := hs6.below hb7
        go_wp2_with fail
        go_at_call 15
        refine (hlb _ _ hr7).mono ?_
        rintro e w8 ⟨rfl, hb8⟩
        have hr8 := hr7.below hb8
        have hs8 := hs7.below hb8
        have hx8 := (((hx4.below hb5).below hb6).below hb7).below hb8
        have hbb := below_seq (below_seq (below_seq (below_seq (below_seq (below_seq (below_seq (below_box2 hb1) hb2) hb3) hb4) hb5) hb6) hb7) hb8
        clear hb1 hb2 hb3 hb4 hb5 hb6 hb7 hb8 hm2 hm3 hm4 hr2 hr3 hr4 hr5 hr6 hr7 hs4 hs6 hs7 hx3 hx4
        obtain ⟨A4, c4, rfl, hd1, hd2, -, hd3⟩ := hs8
        obtain ⟨A2, c2, rfl, hd4, hd5, -, hd6⟩ := id hr8
        clear hd1 hd2 hd3 hd4 hd5 hd6
        go_wp2_with fail
        go_at_call 15
        refine (hxa _ _ hx8).mono ?_
        rintro e w9 ⟨rfl, hb9⟩
        go_wp2_with fail
        go_at_call 15
        refine (hla _ _ (hr8.below hb9)).mono ?_
        rintro e w10 ⟨rfl, hb10⟩
        go_wp2_with fail
        go_ret
        exact ⟨rfl, below_seq (below_seq hbb hb9) hb10⟩
      · rw [decide_eq_false hk] at hab
        have h3 := h2.resolve_left hk
        subst h3
        clear hk h2
        go_enter Try.func3, Try.ntmps3
        go_wp2_with (go_at_call 10; refine (awake_any _).mono ?_; rintro e w1 ⟨rfl, hb1⟩)
        go_at_call 11
        refine (hrows _ (below_box2 hb1)).mono ?_
        rintro e w2 ⟨v2, rfl, hb2, hm2⟩
        have hr2 := hm2.sl
        have hp1 : w.heap.size < w1.heap.size := Nat.lt_of_lt_of_le (by simp) hb1.size
        have c0 : w2.cell? ⟨w.heap.size, 0, none⟩ = some (.int .i64 q0) := (hb2.cell (p := ⟨w.heap.size, 0, none⟩) hp1).trans ((hb1.cell (p := ⟨w.heap.size, 0, none⟩) (by simp)).trans (by simp))
        have c1 : w2.cell? ⟨w.heap.size, 1, none⟩ = some (.int .i64 q1) := (hb2.cell (p := ⟨w.heap.size, 1, none⟩) hp1).trans ((hb1.cell (p := ⟨w.heap.size, 1, none⟩) (by simp)).trans (by simp))
        have c2 : w2.cell? ⟨w.heap.size, 2, none⟩ = some (.int .i64 q2) := (hb2.cell (p := ⟨w.heap.size, 2, none⟩) hp1).trans ((hb1.cell (p := ⟨w.heap.size, 2, none⟩) (by simp)).trans (by simp))
        go_wp2_with fail
        go_at_call 12
        refine (hkeya _).mono ?_
        rintro e w' ⟨rfl, rfl⟩
        go_wp2_with fail
        go_at_call 12
        refine (hkeyb _).mono ?_
        rintro e w' ⟨rfl, rfl⟩
        clear c0 c1 c2
        go_wp2_with fail
        go_at_call 13
        refine (htake _ _ hr2).mono ?_
        rintro e w3 ⟨v3, rfl, hb3, hm3⟩
        have hx3 := hm3.sl
        have hr3 := hr2.below hb3
        go_wp2_with fail
        go_at_call 14
        refine (hsweep _ _ hr3).mono ?_
        rintro e w4 ⟨v4, rfl, hb4, hm4⟩
        have hs4 := hm4.sl
        have hr4 := hr3.below hb4
        have hx4 := hx3.below hb4
        go_wp2_with fail
        go_at_call 15
        refine (hsa _ _ hs4).mono ?_
        rintro e w5 ⟨rfl, hb5⟩
        have hr5 := hr4.below hb5
        go_wp2_with fail
        go_at_call 15
        refine (hla _ _ hr5).mono ?_
        rintro e w6 ⟨rfl, hb6⟩
        have hr6 := hr5.below hb6
        have hs6 := (hs4.below hb5).below hb6
        go_wp2_with fail
        go_at_call 15
        refine (hsb _ _ hs6).mono ?_
        rintro e w7 ⟨rfl, hb7⟩
        have hr7 := hr6.below hb7
        have hs7 := hs6.below hb7
        go_wp2_with fail
        go_at_call 15
        refine (hlb _ _ hr7).mono ?_
        rintro e w8 ⟨rfl, hb8⟩
        have hr8 := hr7.below hb8
        have hs8 := hs7.below hb8
        have hx8 := (((hx4.below hb5).below hb6).below hb7).below hb8
        have hbb := below_seq (below_seq (below_seq (below_seq (below_seq (below_seq (below_seq (below_box2 hb1) hb2) hb3) hb4) hb5) hb6) hb7) hb8
        clear hb1 hb2 hb3 hb4 hb5 hb6 hb7 hb8 hm2 hm3 hm4 hr2 hr3 hr4 hr5 hr6 hr7 hs4 hs6 hs7 hx3 hx4
        obtain ⟨A4, c4, rfl, hd1, hd2, -, hd3⟩ := hs8
        obtain ⟨A2, c2, rfl, hd4, hd5, -, hd6⟩ := id hr8
        clear hd1 hd2 hd3 hd4 hd5 hd6
        go_wp2_with fail
        go_at_call 15
        refine (hxa _ _ hx8).mono ?_
        rintro e w9 ⟨rfl, hb9⟩
        go_wp2_with fail
        go_at_call 15
        refine (hla _ _ (hr8.below hb9)).mono ?_
        rintro e w10 ⟨rfl, hb10⟩
        go_wp2_with fail
        go_at_call 15
        refine (hxb _ _ ((hx8.below hb9).below hb10)).mono ?_
        rintro e w11 ⟨rfl, hb11⟩
        go_wp2_with fail
        go_at_call 15
        refine (hlb _ _ (((hr8.below hb9).below hb10).below hb11)).mono ?_
        rintro e w12 ⟨rfl, hb12⟩
        go_wp2_with fail
        go_ret
        exact ⟨rfl, below_seq (below_seq (below_seq (below_seq hbb hb9) hb10) hb11) hb12⟩
    · obtain ⟨h1, h2, h3⟩ := hap.1 he
      subst h1 h2 h3
      clear hap he
      go_enter Try.func3, Try.ntmps3
      go_wp2_with (go_at_call 10; refine (awake_any _).mono ?_; rintro e w1 ⟨rfl, hb1⟩)
      go_at_call 11
      refine (hrows _ (below_box2 hb1)).mono ?_
      rintro e w2 ⟨v2, rfl, hb2, hm2⟩
      have hr2 := hm2.sl
      have hp1 : w.heap.size < w1.heap.size := Nat.lt_of_lt_of_le (by simp) hb1.size
      have c0 : w2.cell? ⟨w.heap.size, 0, none⟩ = some (.int .i64 q0) := (hb2.cell (p := ⟨w.heap.size, 0, none⟩) hp1).trans ((hb1.cell (p := ⟨w.heap.size, 0, none⟩) (by simp)).trans (by simp))
      have c1 : w2.cell? ⟨w.heap.size, 1, none⟩ = some (.int .i64 q1) := (hb2.cell (p := ⟨w.heap.size, 1, none⟩) hp1).trans ((hb1.cell (p := ⟨w.heap.size, 1, none⟩) (by simp)).trans (by simp))
      have c2 : w2.cell? ⟨w.heap.size, 2, none⟩ = some (.int .i64 q2) := (hb2.cell (p := ⟨w.heap.size, 2, none⟩) hp1).trans ((hb1.cell (p := ⟨w.heap.size, 2, none⟩) (by simp)).trans (by simp))
      go_wp2_with fail
      go_at_call 12
      refine (hkeya _).mono ?_
      rintro e w' ⟨rfl, rfl⟩
      go_wp2_with fail
      go_at_call 12
      refine (hkeyb _).mono ?_
      rintro e w' ⟨rfl, rfl⟩
      clear c0 c1 c2
      go_wp2_with fail
      go_at_call 13
      refine (htake _ _ hr2).mono ?_
      rintro e w3 ⟨v3, rfl, hb3, hm3⟩
      have hx3 := hm3.sl
      have hr3 := hr2.below hb3
      go_wp2_with fail
      go_at_call 14
      refine (hsweep _ _ hr3).mono ?_
      rintro e w4 ⟨v4, rfl, hb4, hm4⟩
      have hs4 := hm4.sl
      have hr4 := hr3.below hb4
      have hx4 := hx3.below hb4
      go_wp2_with fail
      go_at_call 15
      refine (hsa _ _ hs4).mono ?_
      rintro e w5 ⟨rfl, hb5⟩
      have hr5 := hr4.below hb5
      go_wp2_with fail
      go_at_call 15
      refine (hla _ _ hr5).mono ?_
      rintro e w6 ⟨rfl, hb6⟩
      have hr6 := hr5.below hb6
      have hs6 := (hs4.below hb5).below hb6
      go_wp2_with fail
      go_at_call 15
      refine (hsb _ _ hs6).mono ?_
      rintro e w7 ⟨rfl, hb7⟩
      have hr7 := hr6.below hb7
      have hs7 := hs6.below hb7
      go_wp2_with fail
      go_at_call 15
      refine (hlb _ _ hr7).mono ?_
      rintro e w8 ⟨rfl, hb8⟩
      have hr8 := hr7.below hb8
      have hs8 := hs7.below hb8
      have hx8 := (((hx4.below hb5).below hb6).below hb7).below hb8
      have hbb := below_seq (below_seq (below_seq (below_seq (below_seq (below_seq (below_seq (below_box2 hb1) hb2) hb3) hb4) hb5) hb6) hb7) hb8
      clear hb1 hb2 hb3 hb4 hb5 hb6 hb7 hb8 hm2 hm3 hm4 hr2 hr3 hr4 hr5 hr6 hr7 hs4 hs6 hs7 hx3 hx4
      obtain ⟨A4, c4, rfl, hd1, hd2, -, hd3⟩ := hs8
      obtain ⟨A2, c2, rfl, hd4, hd5, -, hd6⟩ := id hr8
      clear hd1 hd2 hd3 hd4 hd5 hd6
      go_wp2_with fail
      go_at_call 16
      refine (hsame _ _ _ hx8 hr8).mono ?_
      rintro e w9 ⟨rfl, hb9⟩
      go_wp2_with fail
      go_at_call 15
      refine (hla _ _ (hr8.below hb9)).mono ?_
      rintro e w10 ⟨rfl, hb10⟩
      go_wp2_with fail
      go_ret
      exact ⟨rfl, below_seq (below_seq hbb hb9) hb10⟩
end Apart
end Go.Proofs.Ytpfogfglkknmoaa
