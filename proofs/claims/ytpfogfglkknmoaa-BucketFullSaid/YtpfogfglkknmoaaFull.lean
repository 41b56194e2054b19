/- BucketFull: the walk of the law (in work). -/
import Derived.Test.YtpfogfglkknmoaaCheck
import Derived.Test.YtpfogfglkknmoaaSame2
import Derived.Test.YtpfogfglkknmoaaMost
namespace Go.Proofs.Ytpfogfglkknmoaa
open Go.RowKit
namespace Full
theorem info43 : (Try.prog.info? 43).map (fun i => (i.zero, i.size, i.bytes)) = some (some (.agg #[.int .i64 0, .int .i64 0]), 2, 16) := by kernel_rfl
def prs (zs : List Int) : List Value := zs.flatMap fun z => [.int .i64 0, .int .i64 z]
theorem prs_succ (zs : List Int) (k : Nat) (hk : k < zs.length) : prs (zs.take (k + 1)) = prs (zs.take k) ++ [.int .i64 0, .int .i64 (zs[k]'hk)] := by
  unfold prs
  rw [List.take_succ_eq_append_getElem hk, List.flatMap_append]
  simp
/-- the least so far -/
structure Lst (zs : List Int) (k : Nat) (m : Int) : Prop where
  start : k = 0 → m = 1000
  le : ∀ i (h : i < zs.length), i < k → m ≤ zs[i] % 128
  one : 0 < k → ∃ i, ∃ h : i < zs.length, i < k ∧ m = zs[i] % 128
theorem Lst.bd {zs : List Int} {k : Nat} {m : Int} (h : Lst zs k m) : 0 ≤ m ∧ m ≤ 1000 := by
  by_cases hk : 0 < k
  · obtain ⟨i, h1, _, e⟩ := h.one hk
    omega
  · rw [h.start (by omega)]; omega
theorem Lst.low {zs : List Int} {k : Nat} {m : Int} (h : Lst zs k m) (hk : k < zs.length) (hlt : zs[k] % 128 < m) : Lst zs (k + 1) (zs[k] % 128) :=
  ⟨by omega, fun i hi hik => by
    by_cases e : i = k
    · subst e; omega
    · have := h.le i hi (by omega); omega, fun _ => ⟨k, hk, by omega, rfl⟩⟩
theorem Lst.same {zs : List Int} {k : Nat} {m : Int} (h : Lst zs k m) (hk : k < zs.length) (hge : ¬ zs[k] % 128 < m) : Lst zs (k + 1) m :=
  ⟨by omega, fun i hi hik => by
    by_cases e : i = k
    · subst e; omega
    · exact h.le i hi (by omega), fun _ => by
    by_cases h0 : 0 < k
    · obtain ⟨i, h1, h2, e⟩ := h.one h0
      exact ⟨i, h1, by omega, e⟩
    · have := h.start (by omega); omega⟩

theorem prs_at (zs : List Int) (i : Nat) (hi : i < zs.length) : (prs zs)[i * 2]? = some (.int .i64 0) ∧ (prs zs)[i * 2 + 1]? = some (.int .i64 (zs[i]'hi)) := by
  induction zs generalizing i with
  | nil => simp at hi
  | cons z zs ih =>
    have e : prs (z :: zs) = [.int .i64 0, .int .i64 z] ++ prs zs := by unfold prs; rfl
    rw [e]
    match i with
    | 0 => exact ⟨by simp, by simp⟩
    | i + 1 =>
      obtain ⟨h1, h2⟩ := ih i (by simpa using hi)
      rw [List.getElem?_append_right (by simp; omega), List.getElem?_append_right (by simp; omega)]
      simp only [List.length_cons, List.length_nil]
      rw [show (i + 1) * 2 - (0 + 1 + 1) = i * 2 from by omega, show (i + 1) * 2 + 1 - (0 + 1 + 1) = i * 2 + 1 from by omega]
      exact ⟨h1, by simpa using h2⟩
/-- the pairs as rows reads them -/
theorem src_of_own {W : World} {base n : Nat} {v : Value} {zs : List Int} (hz : zs.length = n) (hn : 0 < n) (h : W.ownsRow base 43 2 v n (prs zs)) :
    ∃ g c, v = .slice (some ⟨g, 0, none⟩) n c ∧ n ≤ c ∧ Src W (some ⟨g, 0, none⟩) n (fun i => (0, zs.getD i 0)) := by
  have h' := h
  rcases h.2 with ⟨_, h0⟩ | ⟨g, cap, cur, rfl, _, _, hnc, _⟩
  · omega
  · refine ⟨g, cap, rfl, hnc, fun i hi => ⟨_, rfl, (h'.lt g rfl).2, ?_, ?_⟩⟩
    · rw [Addr.add_lit, Nat.zero_add, h'.cellAt _ (by omega)]
      exact (prs_at zs i (by omega)).1
    · rw [Addr.add_lit, Addr.add_lit, Nat.zero_add, h'.cellAt _ (by omega), (prs_at zs i (by omega)).2]
      simp [List.getD_eq_getElem?_getD, List.getElem?_eq_getElem (show i < zs.length by omega)]

def zz : ByteArray := ⟨#[122, 122]⟩
theorem digit_zz : ∀ i < 26, kl (digit i) ≠ kl zz := by decide +kernel
/-- what the two takes come to -/
theorem plain (zs : List Int) (hz : zs.length = 24) (m : Int) (hL : Lst zs 24 m) (t : Int) :
    let r := rowsP (fun i => (0, zs.getD i 0)) 24
    ((takeP r zz t).2 = 15 ↔ t < m + 100) ∧ ((takeP r zz t).2 = 15 → (takeP r zz t).1 = r) ∧ (takeP r zz (m + 100)).2 = 0 ∧ (takeP r zz (m + 100)).1.length ≤ 24 ∧ LeftP (takeP r zz (m + 100)).1 zz (m + 100) = 3 := by
  intro r
  have hv : Valid 2000 r := (rowsP_valid (fun i => (0, zs.getD i 0)) 24 (by omega)).later (by omega)
  have hlen : r.length = 24 := rowsP_length _ _
  have hmem : ∀ b ∈ r, ∃ i, ∃ h : i < zs.length, b = rowP (fun i => (0, zs.getD i 0)) i ∧ b.at_ = zs[i] % 128 := by
    intro b hb
    have hb' : b ∈ (List.range 24).map (rowP (fun i => (0, zs.getD i 0))) := hb
    obtain ⟨i, hi, rfl⟩ := List.mem_map.1 hb'
    have hi' : i < zs.length := by have := List.mem_range.1 hi; omega
    refine ⟨i, hi', rfl, ?_⟩
    show zs.getD i 0 % 128 = _
    simp [List.getD_eq_getElem?_getD, List.getElem?_eq_getElem hi']
  have h0 : ∀ b ∈ r, b.left = 0 := by
    intro b hb
    obtain ⟨i, _, rfl, _⟩ := hmem b hb
    rfl
  have hn : ∀ b ∈ r, kl b.key ≠ kl zz := by
    intro b hb
    obtain ⟨i, hi, rfl, _⟩ := hmem b hb
    exact digit_zz i (by omega)
  have hk : kl zz ≠ [] := by decide
  have hF := fun t => full_none hv h0 hk hn hlen t
  have hbd := hL.bd
  obtain ⟨i, hi, _, hm⟩ := hL.one (by omega)
  have hri : rowP (fun i => (0, zs.getD i 0)) i ∈ r := List.mem_map.2 ⟨i, List.mem_range.2 (by omega), rfl⟩
  have hai : (rowP (fun i => (0, zs.getD i 0)) i).at_ = m := by
    rw [hm]
    show zs.getD i 0 % 128 = _
    simp [List.getD_eq_getElem?_getD, List.getElem?_eq_getElem hi]
  have h2 := (hF (m + 100)).2 ⟨_, hri, by omega⟩
  have hl3 : LeftP (takeP r zz (m + 100)).1 zz (m + 100) = 3 := by
    rw [takeP_left_same hv zz (by omega) (by omega) h2.1, LeftP_none hn]
    rfl
  refine ⟨⟨fun h => ?_, fun h => ?_⟩, fun h => takeP_unchanged _ _ (by rw [h]; decide), h2.1, h2.2.1, hl3⟩
  · rcases Int.lt_or_le t (m + 100) with h' | h'
    · exact h'
    · have := ((hF t).2 ⟨_, hri, by omega⟩).1
      rw [this] at h; cases h
  · rw [(hF t).1 (fun b hb => by
      obtain ⟨j, hj, _, e⟩ := hmem b hb
      have := hL.le j hj (by omega)
      omega)]

set_option maxHeartbeats 4000000 in
theorem walk (zs : List Int) (hz : zs.length = 24) (q : Int) (w : World) :
    Calls Try.prog 8 #[.agg (zs.map (Value.int .i64)).toArray, .int .i64 q] w fun e w' => e = .returned (.bool true) ∧ Below w.heap.size w w' := by
  obtain ⟨i0, hi, hz0, hz1, hz2⟩ := info_parts info43
  have HZ := Lib.hid hz
  have hbox : ∀ i (h : i < zs.length), (w.alloc (.cells (zs.map (Value.int .i64)).toArray 48)).cell? ⟨w.heap.size, i, none⟩ = some (.int .i64 (zs[i]'h)) := by
    intro i h
    rw [cell_of_row _ _ i _ _ _ (heap_alloc_new w _)]
    simp [h]
  have HBOX := Lib.hid hbox
  clear hbox hz
  go_enter Try.func8, Try.ntmps8
  go_wp2_with fail
  go_at_call 10
  refine (awake_any _).mono ?_
  rintro e w1 ⟨rfl, hb1⟩
  have hp1 : w.heap.size < w1.heap.size := Nat.lt_of_lt_of_le (by simp) hb1.size
  have HB1 := Lib.hid (fun (i : Nat) (h : i < zs.length) => (hb1.cell (p := ⟨w.heap.size, i, none⟩) (by simp)).trans (HBOX.out i h))
  have hbw := below_box2 hb1
  clear hb1 HBOX
  go_wp2_with fail
  go_loopw [6, 7, 8] (fun v6 v7 v8 wr => ∃ (k : Nat) (m : Int), k ≤ 24 ∧ v8 = .int .i64 (k : Int) ∧ v7 = .int .i64 m ∧ wr.ownsRow w1.heap.size 43 2 v6 k (prs (zs.take k)) ∧ Hid (Lst zs k m) ∧ Below w1.heap.size w1 wr)
    (fun _ _ v8 _ => 24 - (intOf v8).toNat)
  case atStart => exact ⟨0, 1000, by omega, rfl, rfl, World.ownsRow_nil _ _ _ _, Lib.hid ⟨fun _ => rfl, fun _ _ h => absurd h (by omega), fun h => absurd h (by omega)⟩, Below.refl _ _⟩
  case round =>
    obtain ⟨k, m, hk, rfl, rfl, hown, HL, hb⟩ := hrel
    by_cases hlt : k < 24
    · have hkl : k < zs.length := by have := HZ.out; omega
      have c0 := (hb.cell (p := ⟨w.heap.size, k, none⟩) hp1).trans (HB1.out k hkl)
      have hkz : (k : Int) < 24 := by omega
      have hk0 : (0 : Int) ≤ (k : Int) := by omega
      have hb127 := i64_and127 (zs[k]'hkl)
      have HP := Lib.hid (prs_succ zs k hkl)
      have HNL := Lib.hid (fun (hm : (zs[k]'hkl) % 128 < m) => HL.out.low hkl hm)
      have HNS := Lib.hid (fun (hm : ¬ (zs[k]'hkl) % 128 < m) => HL.out.same hkl hm)
      have hne : some w.heap.size ≠ u6.ownBlock := fun e => by have := (hown.lt _ e.symm).1; omega
      have hbs := hb.size
      generalize hzk : zs[k]'hkl = z at *
      generalize z % 128 = y at *
      go_wp2_with (at_builtin; refine wpList_append_own _ rfl _ _ 22 rfl w1.heap.size 43 i0 _ 2 16 Try.underlying22 hi hz0 hz1 hz2 rfl (by omega) _ k (prs (zs.take k)) rfl (hown.alloc _) ⟨wr.heap.size, 0, none⟩ 1 1 [.int .i64 0, .int .i64 z] rfl rfl ?qc2 (by simp [Value.oneCell']) (by unfold maxLen; omega) (by omega) (by simp; omega) ?_)
      intro v' w4 hown4 hgrow _
      have z4 := grown_cell (p := ⟨w.heap.size, k, none⟩) hgrow (by simp; omega) hne (Lib.cell?_alloc_some _ c0)
      have hbn := (hb.alloc hbs (.cells #[.int .i64 0, .int .i64 z] 43)).grown hgrow (by simp; omega) (fun j hj => (hown.lt j hj).1)
      have HOWN := Lib.hid (show w4.ownsRow w1.heap.size 43 2 v' (k + 1) (prs (zs.take (k + 1))) by rw [HP.out]; exact hown4)
      clear hown4 hgrow hown hb c0 hzk
      by_cases hm : y < m
      · have HN := Lib.hid (HNL.out hm)
        go_wp2_with fail
        go_roundw
        case rel => exact ⟨k + 1, y, by omega, by go_num, by first | rfl | simp_all, HOWN.out, HN, hbn⟩
        case measure => simp [intOf]; omega
      · have HN := Lib.hid (HNS.out (by omega))
        go_wp2_with fail
        go_roundw
        case rel => exact ⟨k + 1, m, by omega, by go_num, by first | rfl | simp_all, HOWN.out, HN, hbn⟩
        case measure => simp [intOf]; omega
    · obtain rfl : k = 24 := by omega
      have hz24 := HZ.out
      rw [show zs.take 24 = zs from List.take_of_length_le (by omega)] at hown
      obtain ⟨g, c, rfl, hc, hsrc⟩ := src_of_own hz24 (by omega) hown
      have hrows := rows_any (some ⟨g, 0, none⟩) 24 c (fun i => (0, zs.getD i 0)) (by unfold maxLen; omega) wr hsrc
      rw [show min 24 26 = 24 from rfl] at hrows
      have hb127 := i64_and127 q
      have hm0 := Int.emod_nonneg q (show (128 : Int) ≠ 0 by omega)
      have hm1 := Int.emod_lt_of_pos q (show (0 : Int) < 128 by omega)
      generalize q % 128 = t at *
      have hpl := plain zs hz24 m HL.out t
      have hbd := HL.out.bd
      have hv : Valid 2000 (rowsP (fun i => (0, zs.getD i 0)) 24) := (rowsP_valid _ 24 (by omega)).later (by omega)
      have hlen : (rowsP (fun i => (0, zs.getD i 0)) 24).length = 24 := rowsP_length _ _
      simp only at hpl
      generalize rowsP (fun i => (0, zs.getD i 0)) 24 = r at *
      have ht1 := fun v W hW => Take_any r hv (by omega) (by omega) zz t (by unfold Time; omega) v W hW
      have ht2 := fun v W hW => Take_any r hv (by omega) (by omega) zz (m + 100) (by unfold Time; omega) v W hW
      have hvx := takeP_valid hv zz (show (0 : Int) ≤ t by omega) (by omega)
      have hvy := takeP_valid hv zz (show (0 : Int) ≤ m + 100 by omega) (by omega)
      have hlx := takeP_length_le (l := r) zz t
      obtain ⟨p1, p2, p3, p4, p5⟩ := hpl
      rw [p3] at ht2
      have hck := fun v W hW => Check_any r hv (by omega) (by omega) v W hW
      have hl := fun v W hW => Left_sl hvy (by omega) (by omega) zz (m + 100) (by unfold Time; omega) v W hW
      rw [p5] at hl
      have hsame := fun v1 v2 W h1 h2 => same_gen (takeP r zz t).1 r (by omega) (by omega) v1 v2 W h1 h2
      clear hvx hvy hv hsrc hown
      generalize (takeP r zz t).2 = cd at *
      generalize (takeP r zz t).1 = x at *
      generalize (takeP r zz (m + 100)).1 = y at *
      unfold zz at ht1 ht2 hl
      have hcase : (t < m + 100 ∧ cd = 15) ∨ (¬ t < m + 100 ∧ (cd == 15) = false) := by
        by_cases h : t < m + 100
        · exact Or.inl ⟨h, p1.2 h⟩
        · exact Or.inr ⟨h, beq_eq_false_iff_ne.2 fun e => h (p1.1 e)⟩
      go_wp2_with fail
      go_at_call 11
      refine hrows.mono ?_
      rintro e w2 ⟨v2, rfl, hb2, hm2⟩
      have hr2 := hm2.sl
      go_wp2_with fail
      go_at_call 13
      refine (ht1 _ _ hr2).mono ?_
      rintro e w3 ⟨v3, rfl, hb3, hm3⟩
      go_wp2_with fail
      go_at_call 13
      refine (ht2 _ _ (hr2.below hb3)).mono ?_
      rintro e w4 ⟨v4, rfl, hb4, hm4⟩
      go_wp2_with fail
      go_at_call 16
      refine (hsame _ _ _ (hm3.sl.below hb4) ((hr2.below hb3).below hb4)).mono ?_
      rintro e w5 ⟨v5, rfl, ⟨bb, rfl, hbb⟩, hb5⟩
      go_wp2_with fail
      go_at_call 20
      refine (hck _ _ (((hr2.below hb3).below hb4).below hb5)).mono ?_
      rintro e w6 ⟨rfl, hb6⟩
      have hy6 := (hm4.sl.below hb5).below hb6
      have hfin : Below w.heap.size w w6 := below_seq (below_seq (below_seq (below_seq (below_seq (below_seq hbw hb) hb2) hb3) hb4) hb5) hb6
      obtain ⟨A4, c4, rfl, -⟩ := id hm4.sl
      have h24 : (y.length : Int) ≤ 24 := by omega
      rcases hcase with ⟨h1, rfl⟩ | ⟨h1, h2⟩
      · have hbt := hbb (p2 rfl)
        subst hbt
        clear p1 p2 p3 p4 p5 hlx hbb hz24 hlen
        go_wp2_with (go_at_call 15; refine (hl _ _ hy6).mono ?_; rintro e w7 ⟨rfl, hb7⟩)
        go_ret
        exact ⟨rfl, below_seq hfin hb7⟩
      · have z9 : decide (t < m + 100) = false := decide_eq_false (by omega)
        have z8 : ¬ cd = 15 := beq_eq_false_iff_ne.1 h2
        clear p1 p2 p3 p4 p5 hlx hbb hz24 hlen
        go_wp2_with (go_at_call 15; refine (hl _ _ hy6).mono ?_; rintro e w7 ⟨rfl, hb7⟩)
        go_ret
        exact ⟨rfl, below_seq hfin hb7⟩
end Full
end Go.Proofs.Ytpfogfglkknmoaa
