/- The document's answer: what is left, swept; the wait; the most. -/
import Derived.Test.YtpfogfglkknmoaaMost
import Derived.Test.YtpfogfglkknmoaaPlainr
namespace Go.Proofs.Ytpfogfglkknmoaa
open Go.RowKit

set_option maxHeartbeats 2000000 in
theorem rleft_any (b : Bk) (hb : b.Fits) (now : Int) (hn : Time now) (w : World) :
    Calls Try.prog 34 #[b.val, .int .i64 now] w fun e w' => e = .returned (.int .i64 (leftP b now)) ∧ Below w.heap.size w w' := by
  have hl := hb.left
  have ha := hb.at_
  unfold Time at hn
  have HS := Lib.hid (fun (k : Nat) h1 h2 h3 => left_stop (b := b) hl (now := now) (k := k) h1 h2 h3)
  obtain ⟨key, l, t⟩ := b
  unfold Bk.val
  simp only at hl ha HS ⊢
  generalize leftP ⟨key, l, t⟩ now = r at *
  go_enter Try.func34, Try.ntmps34
  go_wp2_with fail
  go_loopw [5, 6] (fun v5 v6 wr => ∃ k : Nat, l + k ≤ 4 ∧ (k = 0 ∨ t + 25 * k ≤ now) ∧ v5 = .int .i64 (l + k) ∧ v6 = .int .i64 (t + 25 + 25 * k) ∧ Below w.heap.size w wr)
    (fun v5 _ _ => (4 - intOf v5).toNat)
  case atStart => exact ⟨0, by omega, Or.inl rfl, by go_num, by go_num, by first | exact Below.refl _ _ | exact (Below.refl _ _).alloc (Nat.le_refl _) _⟩
  case round =>
    obtain ⟨k, h1, h2, rfl, rfl, hbw⟩ := hrel
    by_cases hc : t + 25 + 25 * k ≤ now ∧ l + k < 4
    · have z1 : ¬ now < t + 25 + 25 * k := by omega
      have z2 := hc.1
      have z3 := hc.2
      have hw1 : IntKind.i64.wrap (t + 25 + 25 * k + 25) = t + 25 + 25 * k + 25 := IntWalk.i64_in _ (by omega)
      have hw2 : IntKind.i64.wrap (l + k + 1) = l + k + 1 := IntWalk.i64_in _ (by omega)
      go_wp2_with fail
      go_roundw
      case rel => exact ⟨k + 1, by omega, Or.inr (by omega), by congr 1; omega, by congr 1; omega, hbw⟩
      case measure => simp [intOf]; omega
    · have HE := Lib.hid (HS.out k h1 h2 hc)
      by_cases hx : t + 25 + 25 * k ≤ now
      · have z3 : ¬ l + k < 4 := fun h => hc ⟨hx, h⟩
        go_wp2_with fail
        go_ret
        exact ⟨by rw [← HE.out]; rfl, hbw⟩
      · have z1 : now < t + 25 + 25 * k := by omega
        go_wp2_with fail
        go_ret
        exact ⟨by rw [← HE.out]; rfl, hbw⟩

set_option maxHeartbeats 2000000 in
theorem rLeft_any (l : List Bk) (hf : Fit l) (hlen : l.length ≤ 1000) (k : ByteArray) (now : Int) (hn : Time now) (v : Value) (w : World) (hs : Sl v l w) :
    Calls Try.prog 21 #[v, .string k, .int .i64 now] w fun e w' => e = .returned (.int .i64 (LeftP l k now)) ∧ Below w.heap.size w w' := by
  obtain ⟨A, c, rfl, -, -, -, hr⟩ := hs
  have HR := Lib.hid hr
  have HF := Lib.hid hf
  clear hr hf
  generalize hL : LeftP l k now = r
  have HL := Lib.hid hL
  clear hL
  go_enter Try.func21, Try.ntmps21
  go_wp2_with fail
  go_loopw [7] (fun v7 wr => ∃ i : Nat, i ≤ l.length ∧ v7 = .int .i64 (i : Int) ∧ Below w.heap.size w wr ∧ Hid (∀ j (_ : j < i) (h : j < l.length), kl (l[j]'h).key ≠ kl k))
    (fun v7 _ => l.length - (intOf v7).toNat)
  case atStart => exact ⟨0, by omega, rfl, Below.refl _ _, Lib.hid fun j h => absurd h (by omega)⟩
  case round =>
    obtain ⟨i, hi, rfl, hb, HI⟩ := hrel
    by_cases hlt : i < l.length
    · obtain ⟨g, o, rfl, hg, c0, c1, c2⟩ := (HR.out.below hb).at_ i hlt
      have hcall : ∀ W : World, Calls Try.prog 34 #[.agg #[.string (l[i]'hlt).key, .int .i64 (l[i]'hlt).left, .int .i64 (l[i]'hlt).at_], .int .i64 now] W fun e w' => e = .returned (.int .i64 (leftP (l[i]'hlt) now)) ∧ Below W.heap.size W w' := fun W => rleft_any _ (HF.out _ (List.getElem_mem hlt)) now hn W
      have hkl : (i : Int) < (l.length : Int) := by omega
      have hk0 : (0 : Int) ≤ (i : Int) := by omega
      have e1 : (l[i]'hlt).key.toList = kl (l[i]'hlt).key := Lib.toList_data _
      have e2 : k.toList = kl k := Lib.toList_data _
      by_cases he : kl (l[i]'hlt).key = kl k
      · have HE : Hid (leftP (l[i]'hlt) now = r) := Lib.hid ((LeftP_hit hlt (fun j hj => HI.out j hj _) he now).symm.trans HL.out)
        have z5 : ((l[i]'hlt).key.toList == k.toList) = true := by rw [e1, e2, he]; simp
        rw [HE.out] at hcall
        clear he e1 e2
        generalize l[i]'hlt = b at *
        go_wp2_with (go_at_call 34; refine (hcall _).mono ?_; rintro e w1 ⟨rfl, hb1⟩)
        go_ret
        exact ⟨rfl, below_seq hb hb1⟩
      · have HN : Hid (∀ j (_ : j < i + 1) (h : j < l.length), kl (l[j]'h).key ≠ kl k) := Lib.hid fun j hj h => by
          by_cases e : j = i
          · subst e; exact he
          · exact HI.out j (by omega) h
        have z5 : ((l[i]'hlt).key.toList == k.toList) = false := by rw [e1, e2]; simpa using he
        clear he e1 e2 hcall
        generalize l[i]'hlt = b at c0 c1 c2 z5
        go_wp2_with fail
        go_roundw
        case rel => exact ⟨i + 1, by omega, by go_num, hb, HN⟩
        case measure => simp [intOf]; omega
    · obtain rfl : i = l.length := by omega
      have HE : Hid (r = 4) := Lib.hid (by
        rw [← HL.out]
        refine LeftP_none (fun b hb => ?_) now
        obtain ⟨j, hj, rfl⟩ := List.getElem_of_mem hb
        exact HI.out j hj hj)
      have hll : ¬ (l.length : Int) < (l.length : Int) := by omega
      go_wp2_with fail
      go_ret
      exact ⟨by rw [HE.out]; rfl, hb⟩

set_option maxHeartbeats 2000000 in
theorem rWait_any {T : Int} (l : List Bk) (hv : Valid T l) (hT : T ≤ 100000000000) (hlen : l.length ≤ 1000) (k : ByteArray) (now : Int) (h0 : 0 ≤ now) (h1 : now ≤ 100000000000) (v : Value) (w : World) (hs : Sl v l w) :
    Calls Try.prog 35 #[v, .string k, .int .i64 now] w fun e w' => e = .returned (.int .i64 (waitP l k now)) ∧ Below w.heap.size w w' := by
  have hf := hv.fit (by omega)
  have hbd := wait_bounds hv k now
  have HA := Lib.hid (fun t a b => wait_ahead hv k (now := now) (t := t) a b)
  have HE := Lib.hid (wait_end hv k now)
  have hcall := fun t ht W hW => rLeft_any l hf hlen k t ht v W hW
  generalize waitP l k now = q at *
  go_enter Try.func35, Try.ntmps35
  go_wp2_with fail
  go_loopw [7] (fun v7 wr => ∃ t : Int, now ≤ t ∧ t ≤ now + q ∧ v7 = .int .i64 t ∧ Below w.heap.size w wr)
    (fun v7 _ => (now + q - intOf v7).toNat)
  case atStart => exact ⟨now, by omega, by omega, rfl, Below.refl _ _⟩
  case round =>
    obtain ⟨t, ht1, ht2, rfl, hb⟩ := hrel
    have hcall := hcall t (by unfold Time; omega) wr (hs.below hb)
    by_cases hlt : t < now + q
    · rw [HA.out t ht1 hlt] at hcall
      go_wp2_with (go_at_call 21; refine hcall.mono ?_; rintro e w1 ⟨rfl, hb1⟩)
      go_roundw
      case rel => exact ⟨t + 1, by omega, by omega, by go_num, below_seq hb hb1⟩
      case measure => simp [intOf]; omega
    · obtain rfl : t = now + q := by omega
      have hp := HE.out
      generalize LeftP l k (now + q) = r at *
      go_wp2_with (go_at_call 21; refine hcall.mono ?_; rintro e w1 ⟨rfl, hb1⟩)
      go_ret
      exact ⟨by show Ending.returned (.int .i64 (now + q - now)) = _; rw [show now + q - now = q from by omega], below_seq hb hb1⟩

set_option maxHeartbeats 1000000 in
theorem rMost_any (t : Int) (w : World) : Calls Try.prog 25 #[.int .i64 t] w fun e w' => e = .returned (.int .i64 (mostP t)) ∧ w' = w := by
  unfold mostP
  by_cases h : t < 1
  · rw [if_pos h]
    go_enter Try.func25, Try.ntmps25
    go_wp2
    go_ret
    exact ⟨rfl, rfl⟩
  · rw [if_neg h]
    by_cases h2 : 1099511627776 < t
    · rw [show min t 1099511627776 = 1099511627776 from by omega]
      go_enter Try.func25, Try.ntmps25
      go_wp2
      go_ret
      exact ⟨rfl, rfl⟩
    · rw [show min t 1099511627776 = t from by omega]
      go_enter Try.func25, Try.ntmps25
      go_wp2
      go_ret
      exact ⟨rfl, rfl⟩

set_option maxHeartbeats 1000000 in
theorem most_gen (t : Int) (w : World) : Calls Try.prog 17 #[.int .i64 t] w fun e w' => e = .returned (.int .i64 (mostP t)) ∧ w' = w := by
  unfold mostP
  by_cases h : t < 1
  · rw [if_pos h]
    go_enter Try.func17, Try.ntmps17
    go_wp2
    go_ret
    exact ⟨rfl, rfl⟩
  · rw [if_neg h]
    by_cases h2 : 1099511627776 < t
    · rw [show min t 1099511627776 = 1099511627776 from by omega]
      go_enter Try.func17, Try.ntmps17
      go_wp2
      go_ret
      exact ⟨rfl, rfl⟩
    · rw [show min t 1099511627776 = t from by omega]
      go_enter Try.func17, Try.ntmps17
      go_wp2
      go_ret
      exact ⟨rfl, rfl⟩

theorem sweepP_take_succ (l : List Bk) (now : Int) (i : Nat) (hi : i < l.length) : sweepP (l.take (i + 1)) now = sweepP (l.take i) now ++ (if leftP (l[i]'hi) now = 4 then [] else [l[i]'hi]) := by
  unfold sweepP
  rw [List.take_succ_eq_append_getElem hi, List.filter_append]
  congr 1
  by_cases h : leftP (l[i]'hi) now = 4
  · rw [if_pos h]; simp [h]
  · rw [if_neg h]; simp [h]

set_option maxHeartbeats 4000000 in
theorem rSweep_any (l : List Bk) (hf : Fit l) (hlen : l.length ≤ 1000) (now : Int) (hn : Time now) (v : Value) (w : World) (hs : Sl v l w) :
    Calls Try.prog 33 #[v, .int .i64 now] w fun e w' => ∃ v', e = .returned v' ∧ Below w.heap.size w w' ∧ Made w.heap.size v' (sweepP l now) w' := by
  obtain ⟨i0, hi, hz0, hz1, hz2⟩ := info_parts info54
  obtain ⟨A, c, rfl, -, -, -, hr⟩ := hs
  have HR := Lib.hid hr
  have HF := Lib.hid hf
  clear hr hf
  go_enter Try.func33, Try.ntmps33
  go_wp2_with fail
  go_loopw [5, 6] (fun v5 v6 wr => ∃ i : Nat, i ≤ l.length ∧ v6 = .int .i64 (i : Int) ∧ wr.ownsRow w.heap.size 54 3 v5 (sweepP (l.take i) now).length (cellsOf (sweepP (l.take i) now)) ∧ Below w.heap.size w wr)
    (fun _ v6 _ => l.length - (intOf v6).toNat)
  case atStart => exact ⟨0, by omega, rfl, World.ownsRow_nil _ _ _ _, Below.refl _ _⟩
  case round =>
    obtain ⟨i, hik, rfl, hown, hb⟩ := hrel
    by_cases hlt : i < l.length
    · obtain ⟨g, o, rfl, hg, c0, c1, c2⟩ := (HR.out.below hb).at_ i hlt
      have hcall : ∀ W : World, Calls Try.prog 34 #[.agg #[.string (l[i]'hlt).key, .int .i64 (l[i]'hlt).left, .int .i64 (l[i]'hlt).at_], .int .i64 now] W fun e w' => e = .returned (.int .i64 (leftP (l[i]'hlt) now)) ∧ Below W.heap.size W w' := fun W => rleft_any _ (HF.out _ (List.getElem_mem hlt)) now hn W
      have hbd := leftP_bd (l[i]'hlt) (HF.out _ (List.getElem_mem hlt)) now
      have hkl : (i : Int) < (l.length : Int) := by omega
      have hk0 : (0 : Int) ≤ (i : Int) := by omega
      have HS := Lib.hid (sweepP_take_succ l now i hlt)
      have hle : (sweepP (l.take i) now).length ≤ 1000 := by have := sweepP_length (l.take i) now; have := List.length_take_le i l; omega
      generalize hb4 : leftP (l[i]'hlt) now = r at *
      generalize l[i]'hlt = b at *
      generalize sweepP (l.take i) now = s at *
      clear hb4
      by_cases h4 : r = 4
      · subst h4
        have HN : Hid (sweepP (l.take (i + 1)) now = s) := Lib.hid (by rw [HS.out, if_pos rfl, List.append_nil])
        go_wp2_with (go_at_call 34; refine (hcall _).mono ?_; rintro e w1 ⟨rfl, hb1⟩)
        go_roundw
        case rel => exact ⟨i + 1, by omega, by go_num, by rw [HN.out]; exact Most.own_below hown hb1, below_seq hb hb1⟩
        case measure => simp [intOf]; omega
      · have hr4 : r < 4 := by omega
        have HN : Hid (sweepP (l.take (i + 1)) now = s ++ [b]) := Lib.hid (by rw [HS.out, if_neg h4])
        clear h4
        go_wp2_with fail
        go_at_call 34
        refine (hcall _).mono ?_
        rintro e w1 ⟨rfl, hb1⟩
        have d0 := (hb1.cell (p := ⟨g, o + i * 3, none⟩) (by exact hg)).trans c0
        have d1 := (hb1.cell (p := ⟨g, o + i * 3 + 1, none⟩) (by exact hg)).trans c1
        have d2 := (hb1.cell (p := ⟨g, o + i * 3 + 2, none⟩) (by exact hg)).trans c2
        have hown1 := Most.own_below hown hb1
        have hbb := below_seq hb hb1
        have hss := hbb.size
        clear hown hcall c0 c1 c2
        go_wp2_with (at_builtin; refine wpList_append_own _ rfl _ _ 25 rfl w.heap.size 54 i0 _ 3 32 Try.underlying25 hi hz0 hz1 hz2 rfl (by omega) _ s.length (cellsOf s) rfl (hown1.alloc _) ⟨w1.heap.size, 0, none⟩ 1 1 [.string b.key, .int .i64 b.left, .int .i64 b.at_] rfl rfl ?qc2 (by simp [Value.oneCell']) (by unfold maxLen; omega) (by omega) (by simp; omega) ?_)
        case qc2 => exact World.news_of_block (cs := #[.string b.key, .int .i64 b.left, .int .i64 b.at_]) (t := 54) (fr := (0, 0)) (heap_alloc_new w1 _)
        intro v' w4 hown4 hgrow _
        have hbn := (hbb.alloc hss (.cells #[.string b.key, .int .i64 b.left, .int .i64 b.at_] 54)).grown hgrow (by simp; omega) (fun j hj => (hown1.lt j hj).1)
        have HOWN := Lib.hid (show w4.ownsRow w.heap.size 54 3 v' (s ++ [b]).length (cellsOf (s ++ [b])) by rw [cellsOf_append, List.length_append]; exact hown4)
        clear hown4 hgrow hown1
        go_wp2_with fail
        go_roundw
        case rel => exact ⟨i + 1, by omega, by go_num, by rw [HN.out]; exact HOWN.out, hbn⟩
        case measure => simp [intOf]; omega
    · obtain rfl : i = l.length := by omega
      have hll : ¬ (l.length : Int) < (l.length : Int) := by omega
      rw [List.take_length] at hown
      have HM := Lib.hid (owned_of_row hown)
      clear hown
      go_wp2_with fail
      go_ret
      exact ⟨_, rfl, hb, HM.out⟩

end Go.Proofs.Ytpfogfglkknmoaa
