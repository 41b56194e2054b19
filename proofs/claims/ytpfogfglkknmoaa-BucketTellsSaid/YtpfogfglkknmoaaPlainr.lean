/- Plain laws of the document's answer for token buckets. -/
import Derived.Test.YtpfogfglkknmoaaFind
namespace Go.Proofs.Ytpfogfglkknmoaa

/-- what the document's Take makes of swept rows -/
def runT (k : ByteArray) (n now : Int) : Bool → List Bk → List Bk
  | true, l => l
  | false, [] => [⟨k, n - 1, now⟩]
  | false, b :: l => if kl b.key < kl k then b :: runT k n now false l else if kl b.key = kl k then ⟨k, n - 1, b.at_ + 25 * (n - b.left)⟩ :: l else ⟨k, n - 1, now⟩ :: b :: l

theorem runT_true (k : ByteArray) (n now : Int) (l : List Bk) : runT k n now true l = l := by cases l <;> rfl
theorem runT_low {k : ByteArray} {n now : Int} {b : Bk} {l : List Bk} (h : kl b.key < kl k) : runT k n now false (b :: l) = b :: runT k n now false l := by
  rw [runT, if_pos h]
theorem runT_eq {k : ByteArray} {n now : Int} {b : Bk} {l : List Bk} (h : kl b.key = kl k) : runT k n now false (b :: l) = ⟨k, n - 1, b.at_ + 25 * (n - b.left)⟩ :: l := by
  rw [runT, if_neg (by rw [h]; exact lt_irrefl' _), if_pos h]
theorem runT_high {k : ByteArray} {n now : Int} {b : Bk} {l : List Bk} (h : ¬ kl b.key < kl k) (h2 : kl b.key ≠ kl k) : runT k n now false (b :: l) = ⟨k, n - 1, now⟩ :: b :: l := by
  rw [runT, if_neg h, if_neg h2]

theorem runT_put {s : List Bk} {k : ByteArray} (hn : ∀ b ∈ s, kl b.key ≠ kl k) (n now : Int) : runT k n now false s = putAt s k n now := by
  induction s with
  | nil => rfl
  | cons b l ih =>
    by_cases h : kl b.key < kl k
    · rw [runT_low h, ih (fun c hc => hn c (List.mem_cons_of_mem _ hc))]
      unfold putAt lower
      rw [List.takeWhile_cons_of_pos (by simpa using h)]
      simp
    · rw [runT_high h (hn b (by simp))]
      unfold putAt lower
      rw [List.takeWhile_cons_of_neg (by simpa using h)]
      simp

theorem turnAt_none {l : List Bk} {k : ByteArray} (hn : ∀ b ∈ l, kl b.key ≠ kl k) (n now : Int) : turnAt l k n now = l := by
  unfold turnAt
  conv => rhs; rw [← List.map_id l]
  refine List.map_congr_left fun b hb => ?_
  rw [if_neg (hn b hb)]; rfl
theorem runT_turn {s : List Bk} (hs : Sorted s) {k : ByteArray} {n now : Int} (hk : ∃ b ∈ s, kl b.key = kl k) (hb : ∀ b ∈ s, kl b.key = kl k → n = b.left + whole b now) : runT k n now false s = turnAt s k n now := by
  induction s with
  | nil => obtain ⟨b, hb, _⟩ := hk; cases hb
  | cons b l ih =>
    have hp := List.pairwise_cons.1 hs
    by_cases he : kl b.key = kl k
    · have hl : ∀ c ∈ l, kl c.key ≠ kl k := fun c hc e => by
        have := hp.1 c hc
        rw [he, e] at this
        exact lt_irrefl' _ this
      rw [runT_eq he]
      have := hb b (by simp) he
      show _ = (if kl b.key = kl k then _ else b) :: turnAt l k n now
      rw [turnAt_none hl, if_pos he]
      have hkk : b.key = k := kl_inj he
      rw [hkk]
      congr 2
      omega
    · obtain ⟨c, hc, hce⟩ := hk
      rcases List.mem_cons.1 hc with rfl | hc'
      · exact absurd hce he
      · have hlt : kl b.key < kl k := by rw [← hce]; exact hp.1 c hc'
        rw [runT_low hlt, ih hp.2 ⟨c, hc', hce⟩ (fun d hd => hb d (List.mem_cons_of_mem _ hd))]
        show _ = (if kl b.key = kl k then _ else b) :: turnAt l k n now
        rw [if_neg he]

/-- the document's Take comes to the same -/
theorem ref_take {T : Int} {l : List Bk} (hv : Valid T l) (hlen : l.length ≤ 24) (k : ByteArray) (now : Int) (h1 : LeftP l k now ≠ 0) (h2 : kl k ≠ []) :
    takeP l k now = (if 24 < (runT k (LeftP l k now) now false (sweepP l now)).length then (l, 15) else (runT k (LeftP l k now) now false (sweepP l now), 0)) := by
  unfold takeP
  rw [if_neg (fun h => h.elim h1 h2)]
  have hss := sweepP_sorted hv.sorted now
  have hsl := sweepP_length l now
  by_cases hk : hasKey (sweepP l now) k = true
  · rw [if_pos hk]
    obtain ⟨b, hb, he⟩ := hasKey_iff.1 hk
    have hb' := sweepP_mem.1 hb
    have hL := LeftP_some hv.sorted hb'.1 he now
    have hr : runT k (LeftP l k now) now false (sweepP l now) = turnAt (sweepP l now) k (LeftP l k now) now := by
      refine runT_turn hss ⟨b, hb, he⟩ fun c hc hce => ?_
      have := hss.unique hc hb (hce.trans he.symm)
      subst this
      have hn4 := hb'.2
      rw [hL]
      unfold leftP at hn4 ⊢
      omega
    rw [hr, if_neg]
    rw [turnAt_length]; omega
  · have hn := hasKey_false hk
    rw [if_neg hk, runT_put hn, putAt_length]
    by_cases h24 : 24 ≤ (sweepP l now).length
    · rw [if_pos h24, if_pos (by omega)]
    · rw [if_neg h24, if_neg (by omega)]

/-- what one bucket's count comes to, round by round -/
theorem left_stop {b : Bk} (hb : 0 ≤ b.left ∧ b.left ≤ 3) {now : Int} {k : Nat} (h1 : b.left + k ≤ 4) (h2 : k = 0 ∨ b.at_ + 25 * k ≤ now) (h3 : ¬ (b.at_ + 25 + 25 * k ≤ now ∧ b.left + k < 4)) : b.left + k = leftP b now := by
  unfold leftP whole
  by_cases h : b.left + k < 4
  · have : ¬ b.at_ + 25 + 25 * k ≤ now := fun e => h3 ⟨e, h⟩
    rcases h2 with rfl | h2
    · omega
    · omega
  · rcases h2 with rfl | h2
    · omega
    · omega

theorem LeftP_hit {l : List Bk} {k : ByteArray} {i : Nat} (hi : i < l.length) (h : ∀ j (h : j < i), kl (l[j]'(by omega)).key ≠ kl k) (he : kl (l[i]'hi).key = kl k) (now : Int) : LeftP l k now = leftP (l[i]'hi) now := by
  have : l.find? (fun b => decide (kl b.key = kl k)) = some (l[i]'hi) := by
    rw [List.find?_eq_some_iff_getElem]
    refine ⟨by simpa using he, i, hi, rfl, fun j hj => ?_⟩
    have := h j hj
    simpa using this
  unfold LeftP
  rw [this]

/-- ahead of the wait's end there is none; at its end there is one -/
theorem wait_ahead {T : Int} {l : List Bk} (hv : Valid T l) (k : ByteArray) {now t : Int} (h1 : now ≤ t) (h2 : t < now + waitP l k now) : LeftP l k t = 0 := by
  rcases key_cases l k with ⟨b, hb, he⟩ | h
  · rw [waitP_some hv.sorted hb he] at h2
    rw [LeftP_some hv.sorted hb he]
    have hl := hv.left0 b hb
    by_cases hp : 0 < leftP b now
    · rw [if_pos hp] at h2; omega
    · rw [if_neg hp] at h2
      unfold leftP whole at hp ⊢
      omega
  · rw [waitP_none h] at h2; omega
theorem wait_end {T : Int} {l : List Bk} (hv : Valid T l) (k : ByteArray) (now : Int) : 0 < LeftP l k (now + waitP l k now) := by
  rcases key_cases l k with ⟨b, hb, he⟩ | h
  · rw [waitP_some hv.sorted hb he, LeftP_some hv.sorted hb he]
    have hl := hv.left0 b hb
    by_cases hp : 0 < leftP b now
    · rw [if_pos hp]; simpa using hp
    · rw [if_neg hp]
      unfold leftP whole at hp ⊢
      omega
  · rw [LeftP_none h]; omega
theorem wait_bounds {T : Int} {l : List Bk} (hv : Valid T l) (k : ByteArray) (now : Int) : 0 ≤ waitP l k now ∧ now + waitP l k now ≤ max now (T + 25) := by
  rcases key_cases l k with ⟨b, hb, he⟩ | h
  · rw [waitP_some hv.sorted hb he]
    have hl := hv.left0 b hb
    have ha := hv.at0 b hb
    by_cases hp : 0 < leftP b now
    · rw [if_pos hp]; omega
    · rw [if_neg hp]
      unfold leftP whole at hp
      omega
  · rw [waitP_none h]; omega
end Go.Proofs.Ytpfogfglkknmoaa
