/- Rows that lie in memory; a key's place; what is left; the wait. -/
import Derived.Test.YtpfogfglkknmoaaSmall
namespace Go.Proofs.Ytpfogfglkknmoaa
open Go.RowKit

/-- a row that lies at an address -/
def Row (w : World) (A : Option Addr) (l : List Bk) : Prop :=
  l ≠ [] → ∃ g o, A = some ⟨g, o, none⟩ ∧ g < w.heap.size ∧ ∀ i (h : i < l.length),
    w.cell? ⟨g, o + i * 3, none⟩ = some (.string (l[i]'h).key) ∧ w.cell? ⟨g, o + i * 3 + 1, none⟩ = some (.int .i64 (l[i]'h).left) ∧ w.cell? ⟨g, o + i * 3 + 2, none⟩ = some (.int .i64 (l[i]'h).at_)
theorem Row.below {w w' : World} {A : Option Addr} {l : List Bk} (h : Row w A l) (hb : Below w.heap.size w w') : Row w' A l := by
  intro hl
  obtain ⟨g, o, e, hg, hc⟩ := h hl
  refine ⟨g, o, e, Nat.lt_of_lt_of_le hg hb.size, fun i hi => ?_⟩
  obtain ⟨a, b, c⟩ := hc i hi
  exact ⟨(hb.cell (by exact hg)).trans a, (hb.cell (by exact hg)).trans b, (hb.cell (by exact hg)).trans c⟩
theorem Row.at_ {w : World} {A : Option Addr} {l : List Bk} (h : Row w A l) (i : Nat) (hi : i < l.length) : ∃ g o, A = some ⟨g, o, none⟩ ∧ g < w.heap.size ∧
    w.cell? ⟨g, o + i * 3, none⟩ = some (.string (l[i]'hi).key) ∧ w.cell? ⟨g, o + i * 3 + 1, none⟩ = some (.int .i64 (l[i]'hi).left) ∧ w.cell? ⟨g, o + i * 3 + 2, none⟩ = some (.int .i64 (l[i]'hi).at_) := by
  obtain ⟨g, o, e, hg, hc⟩ := h (by intro e; subst e; simp at hi)
  exact ⟨g, o, e, hg, hc i hi⟩

theorem sorted_lt {l : List Bk} (hs : Sorted l) {i j : Nat} (hij : i < j) (hj : j < l.length) : kl (l[i]'(by omega)).key < kl (l[j]'hj).key :=
  List.pairwise_iff_getElem.1 hs i j (by omega) hj hij
theorem hasKey_lower {l : List Bk} (hs : Sorted l) (k : ByteArray) : hasKey l k = (if h : lower l k < l.length then decide (kl (l[lower l k]'h).key = kl k) else false) := by
  by_cases hk : hasKey l k = true
  · rw [hk]
    obtain ⟨b, hb, he⟩ := hasKey_iff.1 hk
    obtain ⟨i, hi, rfl⟩ := List.getElem_of_mem hb
    have : lower l k = i := by
      refine lower_unique (by omega) (fun j hj => ?_) (fun h => ?_)
      · rw [← he]; exact sorted_lt hs hj hi
      · rw [he]; exact lt_irrefl' _
    rw [dif_pos (by omega)]
    simp only [this]
    simp [he]
  · have hn := hasKey_false hk
    have : hasKey l k = false := by simpa using hk
    rw [this]
    split
    · rename_i h
      have := hn _ (List.getElem_mem h)
      simp [this]
    · rfl

set_option maxHeartbeats 2000000 in
theorem search_any (A : Option Addr) (c : Nat) (l : List Bk) (hs : Sorted l) (hlen : l.length ≤ 1000) (k : ByteArray) (w : World) (hr : Row w A l) :
    Calls Try.prog 36 #[.slice A l.length c, .string k, .func (.func 37) #[] #[]] w fun e w' => e = .returned (.tuple #[.int .i64 (lower l k : Nat), .bool (hasKey l k)]) ∧ Below w.heap.size w w' := by
  have HS := Lib.hid hs
  have HR := Lib.hid hr
  clear hs hr
  generalize hlw : lower l k = lw
  generalize hkw : hasKey l k = kw
  have HL := Lib.hid hlw
  have HK := Lib.hid hkw
  clear hlw hkw
  go_enter Try.func36, Try.ntmps36
  go_wp2_with fail
  go_loopw [9, 10] (fun v9 v10 wr => ∃ lo hi : Nat, v9 = .int .i64 (lo : Int) ∧ v10 = .int .i64 (hi : Int) ∧ lo ≤ hi ∧ hi ≤ l.length ∧ Below w.heap.size w wr ∧
      Hid ((∀ j, (h : j < lo) → (h2 : j < l.length) → kl (l[j]'h2).key < kl k) ∧ (∀ j, hi ≤ j → (h2 : j < l.length) → ¬ kl (l[j]'h2).key < kl k)))
    (fun v9 v10 _ => (intOf v10 - intOf v9).toNat)
  case atStart => exact ⟨0, l.length, rfl, rfl, by omega, by omega, Below.refl _ _, Lib.hid ⟨fun j h => absurd h (by omega), fun j h h2 => absurd h2 (by omega)⟩⟩
  case round =>
    obtain ⟨lo, hi, rfl, rfl, hlh, hin, hb, HI⟩ := hrel
    by_cases hlt : lo < hi
    · obtain ⟨g, o, rfl, hg, c0, c1, c2⟩ := (HR.out.below hb).at_ ((lo + hi) / 2) (by omega)
      have hcall : ∀ W : World, Calls Try.prog 37 #[.agg #[.string (l[(lo + hi) / 2]'(by omega)).key, .int .i64 (l[(lo + hi) / 2]'(by omega)).left, .int .i64 (l[(lo + hi) / 2]'(by omega)).at_], .string k] W fun e w' => e = .returned (.int .i64 (cmpv (l[(lo + hi) / 2]'(by omega)).key k)) ∧ Below W.heap.size W w' := fun W => cmp_any _ k W
      have hm : (lo + hi) / 2 < l.length := by omega
      by_cases hc : kl (l[(lo + hi) / 2]'hm).key < kl k
      · have HN : Hid ((∀ j, (h : j < (lo + hi) / 2 + 1) → (h2 : j < l.length) → kl (l[j]'h2).key < kl k) ∧ (∀ j, hi ≤ j → (h2 : j < l.length) → ¬ kl (l[j]'h2).key < kl k)) := Lib.hid ⟨fun j hj h2 => by
          by_cases e : j = (lo + hi) / 2
          · subst e; exact hc
          · exact lt_trans' (sorted_lt HS.out (by omega) hm) hc, HI.out.2⟩
        have hcm := (cmp_lt_iff _ _).2 hc
        change cmpv (l[(lo + hi) / 2]'hm).key k < 0 at hcm
        clear hc
        generalize l[(lo + hi) / 2]'hm = b at c0 c1 c2 hcall hcm
        generalize cmpv b.key k = cv at hcall hcm
        go_wp2_with (go_at_call 37; refine (hcall _).mono ?_; rintro e w' ⟨rfl, hb1⟩)
        go_roundw
        case rel => exact ⟨(lo + hi) / 2 + 1, hi, by first | rfl | (congr 1; omega), rfl, by omega, hin, below_seq hb hb1, HN⟩
        case measure => simp [intOf]; omega
      · have HN : Hid ((∀ j, (h : j < lo) → (h2 : j < l.length) → kl (l[j]'h2).key < kl k) ∧ (∀ j, (lo + hi) / 2 ≤ j → (h2 : j < l.length) → ¬ kl (l[j]'h2).key < kl k)) := Lib.hid ⟨HI.out.1, fun j hj h2 => by
          by_cases e : j = (lo + hi) / 2
          · subst e; exact hc
          · exact fun hlt' => hc (lt_trans' (sorted_lt HS.out (show (lo + hi) / 2 < j by omega) h2) hlt')⟩
        have hcm : ¬ cmpv (l[(lo + hi) / 2]'hm).key k < 0 := fun h => hc ((cmp_lt_iff _ _).1 h)
        clear hc
        generalize l[(lo + hi) / 2]'hm = b at c0 c1 c2 hcall hcm
        generalize cmpv b.key k = cv at hcall hcm
        go_wp2_with (go_at_call 37; refine (hcall _).mono ?_; rintro e w' ⟨rfl, hb1⟩)
        go_roundw
        case rel => exact ⟨lo, (lo + hi) / 2, rfl, by first | rfl | (congr 1; omega), by omega, by omega, below_seq hb hb1, HN⟩
        case measure => simp [intOf]; omega
    · obtain rfl : lo = hi := by omega
      have hlo : lower l k = lo := lower_unique hin (fun j hj => HI.out.1 j hj (by omega)) (fun h => HI.out.2 lo (Nat.le_refl _) h)
      have hk := hasKey_lower HS.out k
      have hll : ¬ (lo : Int) < (lo : Int) := by omega
      by_cases hn : lo < l.length
      · obtain ⟨g, o, rfl, hg, c0, c1, c2⟩ := (HR.out.below hb).at_ lo hn
        have hcall : ∀ W : World, Calls Try.prog 37 #[.agg #[.string (l[lo]'hn).key, .int .i64 (l[lo]'hn).left, .int .i64 (l[lo]'hn).at_], .string k] W fun e w' => e = .returned (.int .i64 (cmpv (l[lo]'hn).key k)) ∧ Below W.heap.size W w' := fun W => cmp_any _ k W
        rw [dif_pos (by omega)] at hk
        simp only [hlo] at hk
        by_cases he : kl (l[lo]'hn).key = kl k
        · have hcm : cmpv (l[lo]'hn).key k = 0 := (cmp_eq_iff _ _).2 he
          rw [decide_eq_true he] at hk
          rw [HK.out] at hk
          rw [HL.out] at hlo
          subst hk
          have hlo := hlo.symm
          subst hlo
          clear he
          generalize l[lo]'hn = b at c0 c1 c2 hcall hcm
          generalize cmpv b.key k = cv at hcall hcm
          subst hcm
          go_wp2_with (go_at_call 37; refine (hcall _).mono ?_; rintro e w' ⟨rfl, hb1⟩)
          go_ret2
          exact ⟨rfl, below_seq hb hb1⟩
        · have hcm : ¬ cmpv (l[lo]'hn).key k = 0 := fun h => he ((cmp_eq_iff _ _).1 h)
          rw [decide_eq_false he] at hk
          rw [HK.out] at hk
          rw [HL.out] at hlo
          subst hk
          have hlo := hlo.symm
          subst hlo
          clear he
          generalize l[lo]'hn = b at c0 c1 c2 hcall hcm
          generalize cmpv b.key k = cv at hcall hcm
          go_wp2_with (go_at_call 37; refine (hcall _).mono ?_; rintro e w' ⟨rfl, hb1⟩)
          go_ret2
          exact ⟨by simp [hcm], below_seq hb hb1⟩
      · rw [dif_neg (by omega)] at hk
        rw [HK.out] at hk
        rw [HL.out] at hlo
        subst hk
        have hlo := hlo.symm
        subst hlo
        go_wp2_with fail
        go_ret2
        exact ⟨rfl, hb⟩

set_option maxHeartbeats 1000000 in
theorem at_any (A : Option Addr) (c : Nat) (l : List Bk) (hs : Sorted l) (hlen : l.length ≤ 1000) (k : ByteArray) (w : World) (hr : Row w A l) :
    Calls Try.prog 27 #[.slice A l.length c, .string k] w fun e w' => e = .returned (.tuple #[.int .i64 (lower l k : Nat), .bool (hasKey l k)]) ∧ Below w.heap.size w w' := by
  go_enter Try.func27, Try.ntmps27
  go_wp2_with (go_at_call 36; refine (search_any A c l hs hlen k _ hr).mono ?_; rintro e w' ⟨rfl, hb1⟩)
  go_ret2
  exact ⟨rfl, hb1⟩

/-- a row's buckets fit -/
def Fit (l : List Bk) : Prop := ∀ b ∈ l, b.Fits
theorem found {l : List Bk} (hs : Sorted l) {k : ByteArray} (hk : hasKey l k = true) : ∃ h : lower l k < l.length, kl (l[lower l k]'h).key = kl k := by
  rw [hasKey_lower hs k] at hk
  by_cases h : lower l k < l.length
  · rw [dif_pos h] at hk
    exact ⟨h, by simpa using hk⟩
  · rw [dif_neg h] at hk
    cases hk

set_option maxHeartbeats 1000000 in
theorem Left_any (A : Option Addr) (c : Nat) (l : List Bk) (hs : Sorted l) (hf : Fit l) (hlen : l.length ≤ 1000) (k : ByteArray) (now : Int) (hn : Time now) (w : World) (hr : Row w A l) :
    Calls Try.prog 15 #[.slice A l.length c, .string k, .int .i64 now] w fun e w' => e = .returned (.int .i64 (LeftP l k now)) ∧ Below w.heap.size w w' := by
  have hat := fun W hW => at_any A c l hs hlen k W hW
  by_cases hk : hasKey l k = true
  · obtain ⟨hi, he⟩ := found hs hk
    have hL := LeftP_some hs (List.getElem_mem hi) he now
    rw [hL]
    rw [hk] at hat
    have hfit := hf _ (List.getElem_mem hi)
    obtain ⟨g, o, rfl, hg, c0, c1, c2⟩ := hr.at_ _ hi
    have hcall : ∀ W : World, Calls Try.prog 32 #[.agg #[.string (l[lower l k]'hi).key, .int .i64 (l[lower l k]'hi).left, .int .i64 (l[lower l k]'hi).at_], .int .i64 now] W fun e w' => e = .returned (.int .i64 (leftP (l[lower l k]'hi) now)) ∧ Below W.heap.size W w' := fun W => left_any _ hfit now hn W
    clear hk hL hfit he
    generalize l[lower l k]'hi = b at c0 c1 c2 hcall ⊢
    generalize leftP b now = r at hcall ⊢
    generalize lower l k = i at hat hi c0 c1 c2
    have hii : (i : Int) < (l.length : Int) := by omega
    have hi0 : (0 : Int) ≤ (i : Int) := by omega
    go_enter Try.func15, Try.ntmps15
    go_wp2_with (go_at_call 27; refine (hat _ hr).mono ?_; rintro e w1 ⟨rfl, hb1⟩; have d0 := (hb1.cell (p := ⟨g, o + i * 3, none⟩) hg).trans c0; have d1 := (hb1.cell (p := ⟨g, o + i * 3 + 1, none⟩) hg).trans c1; have d2 := (hb1.cell (p := ⟨g, o + i * 3 + 2, none⟩) hg).trans c2; clear c0 c1 c2)
    refine (hcall _).mono ?_
    rintro e w2 ⟨rfl, hb2⟩
    go_wp2_with fail
    go_ret
    exact ⟨rfl, below_seq hb1 hb2⟩
  · have hkf : hasKey l k = false := by simpa using hk
    rw [LeftP_none (hasKey_false hk) now]
    rw [hkf] at hat
    go_enter Try.func15, Try.ntmps15
    go_wp2_with (go_at_call 27; refine (hat _ hr).mono ?_; rintro e w1 ⟨rfl, hb1⟩)
    go_ret
    exact ⟨rfl, hb1⟩

set_option maxHeartbeats 1000000 in
theorem Wait_any (A : Option Addr) (c : Nat) (l : List Bk) (hs : Sorted l) (hf : Fit l) (hlen : l.length ≤ 1000) (k : ByteArray) (now : Int) (hn : Time now) (w : World) (hr : Row w A l) :
    Calls Try.prog 18 #[.slice A l.length c, .string k, .int .i64 now] w fun e w' => e = .returned (.int .i64 (waitP l k now)) ∧ Below w.heap.size w w' := by
  have hat := fun W hW => at_any A c l hs hlen k W hW
  by_cases hk : hasKey l k = true
  · obtain ⟨hi, he⟩ := found hs hk
    have hL := waitP_some hs (List.getElem_mem hi) he now
    rw [hL]
    rw [hk] at hat
    have hfit := hf _ (List.getElem_mem hi)
    have hat_ := hfit.at_
    obtain ⟨g, o, rfl, hg, c0, c1, c2⟩ := hr.at_ _ hi
    have hcall : ∀ W : World, Calls Try.prog 32 #[.agg #[.string (l[lower l k]'hi).key, .int .i64 (l[lower l k]'hi).left, .int .i64 (l[lower l k]'hi).at_], .int .i64 now] W fun e w' => e = .returned (.int .i64 (leftP (l[lower l k]'hi) now)) ∧ Below W.heap.size W w' := fun W => left_any _ hfit now hn W
    clear hk hL hfit he
    generalize l[lower l k]'hi = b at c0 c1 c2 hcall hat_ ⊢
    generalize leftP b now = r at hcall ⊢
    generalize lower l k = i at hat hi c0 c1 c2
    have hii : (i : Int) < (l.length : Int) := by omega
    have hi0 : (0 : Int) ≤ (i : Int) := by omega
    unfold Time at hn
    by_cases hpos : 0 < r
    · rw [if_pos hpos]
      go_enter Try.func18, Try.ntmps18
      go_wp2_with (go_at_call 27; refine (hat _ hr).mono ?_; rintro e w1 ⟨rfl, hb1⟩; have d0 := (hb1.cell (p := ⟨g, o + i * 3, none⟩) hg).trans c0; have d1 := (hb1.cell (p := ⟨g, o + i * 3 + 1, none⟩) hg).trans c1; have d2 := (hb1.cell (p := ⟨g, o + i * 3 + 2, none⟩) hg).trans c2; clear c0 c1 c2)
      refine (hcall _).mono ?_
      rintro e w2 ⟨rfl, hb2⟩
      go_wp2_with fail
      go_ret
      exact ⟨rfl, below_seq hb1 hb2⟩
    · rw [if_neg hpos]
      go_enter Try.func18, Try.ntmps18
      go_wp2_with (go_at_call 27; refine (hat _ hr).mono ?_; rintro e w1 ⟨rfl, hb1⟩; have d0 := (hb1.cell (p := ⟨g, o + i * 3, none⟩) hg).trans c0; have d1 := (hb1.cell (p := ⟨g, o + i * 3 + 1, none⟩) hg).trans c1; have d2 := (hb1.cell (p := ⟨g, o + i * 3 + 2, none⟩) hg).trans c2; clear c0 c1 c2)
      refine (hcall _).mono ?_
      rintro e w2 ⟨rfl, hb2⟩
      have hg1 : g < w1.heap.size := Nat.lt_of_lt_of_le hg hb1.size
      have f2 := (hb2.cell (p := ⟨g, o + i * 3 + 2, none⟩) hg1).trans d2
      go_wp2_with fail
      go_ret
      exact ⟨rfl, below_seq hb1 hb2⟩
  · have hkf : hasKey l k = false := by simpa using hk
    rw [waitP_none (hasKey_false hk) now]
    rw [hkf] at hat
    go_enter Try.func18, Try.ntmps18
    go_wp2_with (go_at_call 27; refine (hat _ hr).mono ?_; rintro e w1 ⟨rfl, hb1⟩)
    go_ret
    exact ⟨rfl, hb1⟩
end Go.Proofs.Ytpfogfglkknmoaa
