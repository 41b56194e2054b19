/- plain laws of token buckets -/
namespace Go.Proofs.Ytpfogfglkknmoaa

structure Bk where
  key : ByteArray
  left : Int
  at_ : Int

def kl (k : ByteArray) : List UInt8 := k.data.toList
theorem kl_inj {a b : ByteArray} (h : kl a = kl b) : a = b := by
  cases a with | mk a => cases b with | mk b =>
  have : a = b := Array.toList_inj.1 h
  rw [this]

def whole (b : Bk) (now : Int) : Int := (max (now - b.at_) 0) / 25
def leftP (b : Bk) (now : Int) : Int := min (b.left + whole b now) 4

def LeftP (l : List Bk) (k : ByteArray) (now : Int) : Int :=
  match l.find? (fun b => decide (kl b.key = kl k)) with
  | some b => leftP b now
  | none => 4
def sweepP (l : List Bk) (now : Int) : List Bk := l.filter (fun b => !decide (leftP b now = 4))
def lower (l : List Bk) (k : ByteArray) : Nat := (l.takeWhile (fun b => decide (kl b.key < kl k))).length
def hasKey (l : List Bk) (k : ByteArray) : Bool := l.any (fun b => decide (kl b.key = kl k))
def putAt (l : List Bk) (k : ByteArray) (n now : Int) : List Bk :=
  l.take (lower l k) ++ [⟨k, n - 1, now⟩] ++ l.drop (lower l k)
def turnAt (l : List Bk) (k : ByteArray) (n now : Int) : List Bk :=
  l.map (fun b => if kl b.key = kl k then ⟨b.key, n - 1, b.at_ + whole b now * 25⟩ else b)
def takeP (l : List Bk) (k : ByteArray) (now : Int) : List Bk × Int :=
  if LeftP l k now = 0 ∨ kl k = [] then (l, 22)
  else if hasKey (sweepP l now) k then (turnAt (sweepP l now) k (LeftP l k now) now, 0)
  else if 24 ≤ (sweepP l now).length then (l, 15)
  else (putAt (sweepP l now) k (LeftP l k now) now, 0)
def waitP (l : List Bk) (k : ByteArray) (now : Int) : Int :=
  match l.find? (fun b => decide (kl b.key = kl k)) with
  | some b => if 0 < leftP b now then 0 else b.at_ + 25 - now
  | none => 0
def mostP (t : Int) : Int := if t < 1 then 0 else 4 + (min t 1099511627776 - 1) / 25

def Sorted (l : List Bk) : Prop := l.Pairwise (fun a b => kl a.key < kl b.key)
/-- rows that may be, with times to T -/
structure Valid (T : Int) (l : List Bk) : Prop where
  sorted : Sorted l
  nonempty : ∀ b ∈ l, kl b.key ≠ []
  left0 : ∀ b ∈ l, 0 ≤ b.left ∧ b.left ≤ 3
  at0 : ∀ b ∈ l, 0 ≤ b.at_ ∧ b.at_ ≤ T

theorem lt_irrefl' (a : List UInt8) : ¬ a < a := List.lt_irrefl a
theorem lt_trans' {a b c : List UInt8} (h : a < b) (h' : b < c) : a < c := List.lt_trans h h'
theorem lt_asymm' {a b : List UInt8} (h : a < b) : ¬ b < a := List.lt_asymm h
theorem tri (a b : List UInt8) (h : ¬ a < b) (h' : a ≠ b) : b < a := by
  exact Std.lt_of_le_of_ne (List.not_lt.1 h) (Ne.symm h')

theorem whole_nonneg (b : Bk) (now : Int) : 0 ≤ whole b now := by unfold whole; omega
theorem whole_bound (b : Bk) (now : Int) (h : b.at_ ≤ now) : b.at_ + whole b now * 25 ≤ now ∧ now < b.at_ + whole b now * 25 + 25 := by unfold whole; omega
theorem whole_zero (b : Bk) (now : Int) (h : now < b.at_ + 25) : whole b now = 0 := by unfold whole; omega

/-! ### find -/
theorem find_key {l : List Bk} {k : ByteArray} {b : Bk} (h : l.find? (fun b => decide (kl b.key = kl k)) = some b) : b ∈ l ∧ kl b.key = kl k :=
  ⟨List.mem_of_find?_eq_some h, by have := List.find?_some h; simpa using this⟩
theorem Sorted.unique {l : List Bk} (hs : Sorted l) {a b : Bk} (ha : a ∈ l) (hb : b ∈ l) (h : kl a.key = kl b.key) : a = b := by
  induction l with
  | nil => cases ha
  | cons x l ih =>
    have hx := List.pairwise_cons.1 hs
    rcases List.mem_cons.1 ha with rfl | ha'
    · rcases List.mem_cons.1 hb with rfl | hb'
      · rfl
      · exact absurd (hx.1 b hb') (by rw [h]; exact lt_irrefl' _)
    · rcases List.mem_cons.1 hb with rfl | hb'
      · exact absurd (hx.1 a ha') (by rw [h]; exact lt_irrefl' _)
      · exact ih hx.2 ha' hb'
theorem find_of_mem {l : List Bk} (hs : Sorted l) {b : Bk} (hb : b ∈ l) {k : ByteArray} (h : kl b.key = kl k) :
    l.find? (fun b => decide (kl b.key = kl k)) = some b := by
  cases hf : l.find? (fun b => decide (kl b.key = kl k)) with
  | none => exact absurd (List.find?_eq_none.1 hf b hb) (by simpa using h)
  | some c =>
    have := find_key hf
    rw [hs.unique this.1 hb (this.2.trans h.symm)]
theorem find_none_iff {l : List Bk} {k : ByteArray} : l.find? (fun b => decide (kl b.key = kl k)) = none ↔ ∀ b ∈ l, kl b.key ≠ kl k := by
  rw [List.find?_eq_none]; simp
theorem hasKey_iff {l : List Bk} {k : ByteArray} : hasKey l k = true ↔ ∃ b ∈ l, kl b.key = kl k := by
  unfold hasKey; simp
theorem hasKey_false {l : List Bk} {k : ByteArray} (h : ¬ hasKey l k = true) : ∀ b ∈ l, kl b.key ≠ kl k := by
  intro b hb he
  exact h (hasKey_iff.2 ⟨b, hb, he⟩)

theorem LeftP_some {l : List Bk} (hs : Sorted l) {b : Bk} (hb : b ∈ l) {k : ByteArray} (h : kl b.key = kl k) (now : Int) : LeftP l k now = leftP b now := by
  unfold LeftP; rw [find_of_mem hs hb h]
theorem LeftP_none {l : List Bk} {k : ByteArray} (h : ∀ b ∈ l, kl b.key ≠ kl k) (now : Int) : LeftP l k now = 4 := by
  unfold LeftP; rw [find_none_iff.2 h]
theorem waitP_some {l : List Bk} (hs : Sorted l) {b : Bk} (hb : b ∈ l) {k : ByteArray} (h : kl b.key = kl k) (now : Int) : waitP l k now = if 0 < leftP b now then 0 else b.at_ + 25 - now := by
  unfold waitP; rw [find_of_mem hs hb h]
theorem waitP_none {l : List Bk} {k : ByteArray} (h : ∀ b ∈ l, kl b.key ≠ kl k) (now : Int) : waitP l k now = 0 := by
  unfold waitP; rw [find_none_iff.2 h]
/-- either one row of the key, or none -/
theorem key_cases (l : List Bk) (k : ByteArray) : (∃ b ∈ l, kl b.key = kl k) ∨ ∀ b ∈ l, kl b.key ≠ kl k := by
  by_cases h : ∃ b ∈ l, kl b.key = kl k
  · exact Or.inl h
  · exact Or.inr fun b hb he => h ⟨b, hb, he⟩

theorem LeftP_bounds {T : Int} {l : List Bk} (hv : Valid T l) (k : ByteArray) (now : Int) : 0 ≤ LeftP l k now ∧ LeftP l k now ≤ 4 := by
  rcases key_cases l k with ⟨b, hb, he⟩ | h
  · rw [LeftP_some hv.sorted hb he]
    have := hv.left0 b hb
    have := whole_nonneg b now
    unfold leftP; omega
  · rw [LeftP_none h]; omega

/-! ### sweeping -/
theorem sweepP_sorted {l : List Bk} (hs : Sorted l) (now : Int) : Sorted (sweepP l now) := List.Pairwise.filter _ hs
theorem sweepP_mem {l : List Bk} {now : Int} {b : Bk} : b ∈ sweepP l now ↔ b ∈ l ∧ leftP b now ≠ 4 := by
  unfold sweepP; simp
theorem sweepP_valid {T : Int} {l : List Bk} (hv : Valid T l) (now : Int) : Valid T (sweepP l now) :=
  ⟨sweepP_sorted hv.sorted now, fun b hb => hv.nonempty b (sweepP_mem.1 hb).1, fun b hb => hv.left0 b (sweepP_mem.1 hb).1, fun b hb => hv.at0 b (sweepP_mem.1 hb).1⟩
theorem sweepP_length (l : List Bk) (now : Int) : (sweepP l now).length ≤ l.length := List.length_filter_le _ _
theorem LeftP_sweep {l : List Bk} (hs : Sorted l) (k : ByteArray) (now : Int) : LeftP (sweepP l now) k now = LeftP l k now := by
  rcases key_cases l k with ⟨b, hb, he⟩ | h
  · rw [LeftP_some hs hb he]
    by_cases h4 : leftP b now = 4
    · rw [LeftP_none, h4]
      intro c hc hk
      have hc' := sweepP_mem.1 hc
      exact hc'.2 (by rw [hs.unique hc'.1 hb (hk.trans he.symm)]; exact h4)
    · rw [LeftP_some (sweepP_sorted hs now) (sweepP_mem.2 ⟨hb, h4⟩) he]
  · rw [LeftP_none h, LeftP_none]
    intro c hc
    exact h c (sweepP_mem.1 hc).1

/-! ### what taking does -/
theorem lower_le (l : List Bk) (k : ByteArray) : lower l k ≤ l.length := by
  unfold lower
  induction l with
  | nil => simp
  | cons x l ih => rw [List.takeWhile_cons]; split <;> simp <;> omega
theorem mem_take_lower {l : List Bk} {k : ByteArray} {b : Bk} (h : b ∈ l.take (lower l k)) : kl b.key < kl k := by
  induction l with
  | nil => simp at h
  | cons x l ih =>
    unfold lower at h
    rw [List.takeWhile_cons] at h
    split at h
    · rename_i hx
      simp only [List.length_cons, List.take_succ_cons, List.mem_cons] at h
      rcases h with rfl | h
      · simpa using hx
      · exact ih h
    · simp at h
theorem mem_drop_lower {l : List Bk} (hs : Sorted l) {k : ByteArray} {b : Bk} (h : b ∈ l.drop (lower l k)) : ¬ kl b.key < kl k := by
  induction l with
  | nil => simp at h
  | cons x l ih =>
    have hx := List.pairwise_cons.1 hs
    unfold lower at h
    rw [List.takeWhile_cons] at h
    split at h
    · simp only [List.length_cons, List.drop_succ_cons] at h
      exact ih hx.2 h
    · rename_i hlt
      simp only [List.length_nil, List.drop_zero, List.mem_cons] at h
      rcases h with rfl | h
      · simpa using hlt
      · intro hbk
        exact hlt (by simpa using lt_trans' (hx.1 b h) hbk)
/-- the place of a key is told by what stands on either side -/
theorem lower_unique {l : List Bk} {k : ByteArray} {i : Nat} (hi : i ≤ l.length) (h1 : ∀ j, (h : j < i) → kl (l[j]'(by omega)).key < kl k) (h2 : ∀ h : i < l.length, ¬ kl (l[i]'h).key < kl k) : lower l k = i := by
  induction l generalizing i with
  | nil => simp at hi; subst hi; rfl
  | cons x l ih =>
    unfold lower
    rw [List.takeWhile_cons]
    match i with
    | 0 =>
      have := h2 (by simp)
      simp only [List.getElem_cons_zero] at this
      simp [this]
    | i + 1 =>
      have h0 := h1 0 (by omega)
      simp only [List.getElem_cons_zero] at h0
      simp only [h0, decide_true, if_true, List.length_cons]
      have := ih (i := i) (by simpa using hi) (fun j hj => by have := h1 (j + 1) (by omega); simpa using this) (fun h => by have := h2 (by simpa using h); simpa using this)
      unfold lower at this
      rw [this]

theorem mem_putAt {l : List Bk} {k : ByteArray} {n now : Int} {b : Bk} : b ∈ putAt l k n now ↔ b = ⟨k, n - 1, now⟩ ∨ b ∈ l := by
  unfold putAt
  rw [List.mem_append, List.mem_append, List.mem_singleton]
  constructor
  · rintro ((h | h) | h)
    · exact Or.inr (List.mem_of_mem_take h)
    · exact Or.inl h
    · exact Or.inr (List.mem_of_mem_drop h)
  · rintro (h | h)
    · exact Or.inl (Or.inr h)
    · have : b ∈ l.take (lower l k) ++ l.drop (lower l k) := by rw [List.take_append_drop]; exact h
      rcases List.mem_append.1 this with h | h
      · exact Or.inl (Or.inl h)
      · exact Or.inr h
theorem putAt_sorted {l : List Bk} (hs : Sorted l) {k : ByteArray} (hk : ∀ b ∈ l, kl b.key ≠ kl k) (n now : Int) : Sorted (putAt l k n now) := by
  unfold putAt Sorted
  rw [List.append_assoc, List.pairwise_append]
  refine ⟨List.Pairwise.take hs, ?_, ?_⟩
  · rw [List.singleton_append, List.pairwise_cons]
    refine ⟨?_, List.Pairwise.drop hs⟩
    intro b hb
    exact tri _ _ (mem_drop_lower hs hb) (hk b (List.mem_of_mem_drop hb))
  · intro a ha b hb
    have h1 := mem_take_lower ha
    rw [List.singleton_append, List.mem_cons] at hb
    rcases hb with rfl | hb
    · exact h1
    · exact lt_trans' h1 (tri _ _ (mem_drop_lower hs hb) (hk b (List.mem_of_mem_drop hb)))
theorem putAt_length (l : List Bk) (k : ByteArray) (n now : Int) : (putAt l k n now).length = l.length + 1 := by
  have := lower_le l k
  unfold putAt
  simp
  omega
theorem turnAt_length (l : List Bk) (k : ByteArray) (n now : Int) : (turnAt l k n now).length = l.length := by unfold turnAt; simp
theorem turnAt_sorted {l : List Bk} (hs : Sorted l) (k : ByteArray) (n now : Int) : Sorted (turnAt l k n now) := by
  unfold turnAt Sorted
  rw [List.pairwise_map]
  refine List.Pairwise.imp ?_ hs
  intro a b h
  have e : ∀ c : Bk, (if kl c.key = kl k then (⟨c.key, n - 1, c.at_ + whole c now * 25⟩ : Bk) else c).key = c.key := by intro c; split <;> rfl
  rw [e, e]
  exact h
theorem mem_turnAt {l : List Bk} {k : ByteArray} {n now : Int} {b : Bk} (h : b ∈ turnAt l k n now) :
    (∃ c ∈ l, kl c.key = kl k ∧ b = ⟨c.key, n - 1, c.at_ + whole c now * 25⟩) ∨ (b ∈ l ∧ kl b.key ≠ kl k) := by
  unfold turnAt at h
  obtain ⟨c, hc, he⟩ := List.mem_map.1 h
  by_cases hk : kl c.key = kl k
  · rw [if_pos hk] at he
    exact Or.inl ⟨c, hc, hk, he.symm⟩
  · rw [if_neg hk] at he
    subst he
    exact Or.inr ⟨hc, hk⟩
theorem turnAt_other {l : List Bk} {k : ByteArray} {n now : Int} {b : Bk} (h : b ∈ l) (hk : kl b.key ≠ kl k) : b ∈ turnAt l k n now := by
  unfold turnAt
  exact List.mem_map.2 ⟨b, h, by rw [if_neg hk]⟩
theorem turnAt_same {l : List Bk} {k : ByteArray} {n now : Int} {b : Bk} (h : b ∈ l) (hk : kl b.key = kl k) : (⟨b.key, n - 1, b.at_ + whole b now * 25⟩ : Bk) ∈ turnAt l k n now := by
  unfold turnAt
  exact List.mem_map.2 ⟨b, h, by rw [if_pos hk]⟩

/-- the four ways of a take -/
theorem takeP_cases (l : List Bk) (k : ByteArray) (now : Int) :
    (takeP l k now = (l, 22) ∧ (LeftP l k now = 0 ∨ kl k = [])) ∨
    (takeP l k now = (turnAt (sweepP l now) k (LeftP l k now) now, 0) ∧ LeftP l k now ≠ 0 ∧ kl k ≠ [] ∧ hasKey (sweepP l now) k = true) ∨
    (takeP l k now = (l, 15) ∧ LeftP l k now ≠ 0 ∧ kl k ≠ [] ∧ ¬ hasKey (sweepP l now) k = true ∧ 24 ≤ (sweepP l now).length) ∨
    (takeP l k now = (putAt (sweepP l now) k (LeftP l k now) now, 0) ∧ LeftP l k now ≠ 0 ∧ kl k ≠ [] ∧ ¬ hasKey (sweepP l now) k = true ∧ (sweepP l now).length < 24) := by
  unfold takeP
  by_cases h1 : LeftP l k now = 0 ∨ kl k = []
  · rw [if_pos h1]; exact Or.inl ⟨rfl, h1⟩
  · rw [if_neg h1]
    have a : LeftP l k now ≠ 0 := fun h => h1 (Or.inl h)
    have b : kl k ≠ [] := fun h => h1 (Or.inr h)
    by_cases h2 : hasKey (sweepP l now) k = true
    · rw [if_pos h2]; exact Or.inr (Or.inl ⟨rfl, a, b, h2⟩)
    · rw [if_neg h2]
      by_cases h3 : 24 ≤ (sweepP l now).length
      · rw [if_pos h3]; exact Or.inr (Or.inr (Or.inl ⟨rfl, a, b, h2, h3⟩))
      · rw [if_neg h3]; exact Or.inr (Or.inr (Or.inr ⟨rfl, a, b, h2, by omega⟩))

theorem takeP_valid {T : Int} {l : List Bk} (hv : Valid T l) (k : ByteArray) {now : Int} (h0 : 0 ≤ now) (hT : now ≤ T) : Valid T (takeP l k now).1 := by
  have hsv := sweepP_valid hv now
  have hb := LeftP_bounds hv k now
  rcases takeP_cases l k now with ⟨e, _⟩ | ⟨e, h1, h2, h3⟩ | ⟨e, _⟩ | ⟨e, h1, h2, h3, h4⟩
  · rw [e]; exact hv
  · rw [e]
    obtain ⟨c, hc, hck⟩ := hasKey_iff.1 h3
    have hL : LeftP l k now = leftP c now := by rw [← LeftP_sweep hv.sorted, LeftP_some hsv.sorted hc hck]
    have hc4 := (sweepP_mem.1 hc).2
    refine ⟨turnAt_sorted hsv.sorted _ _ _, ?_, ?_, ?_⟩
    · intro b hb
      rcases mem_turnAt hb with ⟨d, hd, _, rfl⟩ | ⟨hd, _⟩
      · exact hsv.nonempty d hd
      · exact hsv.nonempty b hd
    · intro b hb'
      rcases mem_turnAt hb' with ⟨d, hd, hdk, rfl⟩ | ⟨hd, _⟩
      · have := hsv.sorted.unique hd hc (hdk.trans hck.symm)
        subst this
        show 0 ≤ LeftP l k now - 1 ∧ LeftP l k now - 1 ≤ 3
        omega
      · exact hsv.left0 b hd
    · intro b hb'
      rcases mem_turnAt hb' with ⟨d, hd, hdk, rfl⟩ | ⟨hd, _⟩
      · have h5 := hsv.at0 d hd
        have h6 := whole_nonneg d now
        show 0 ≤ d.at_ + whole d now * 25 ∧ d.at_ + whole d now * 25 ≤ T
        by_cases h7 : d.at_ ≤ now
        · have := whole_bound d now h7; omega
        · have := whole_zero d now (by omega); omega
      · exact hsv.at0 b hd
  · rw [e]; exact hv
  · rw [e]
    refine ⟨putAt_sorted hsv.sorted (hasKey_false h3) _ _, ?_, ?_, ?_⟩
    · intro b hb'
      rcases mem_putAt.1 hb' with rfl | hd
      · exact h2
      · exact hsv.nonempty b hd
    · intro b hb'
      rcases mem_putAt.1 hb' with rfl | hd
      · show 0 ≤ LeftP l k now - 1 ∧ LeftP l k now - 1 ≤ 3; omega
      · exact hsv.left0 b hd
    · intro b hb'
      rcases mem_putAt.1 hb' with rfl | hd
      · exact ⟨h0, hT⟩
      · exact hsv.at0 b hd
theorem takeP_length {l : List Bk} (k : ByteArray) (now : Int) (h : l.length ≤ 24) : (takeP l k now).1.length ≤ 24 := by
  have hs := sweepP_length l now
  rcases takeP_cases l k now with ⟨e, _⟩ | ⟨e, _⟩ | ⟨e, _⟩ | ⟨e, _, _, _, h4⟩
  · rw [e]; exact h
  · rw [e]; show (turnAt _ _ _ _).length ≤ 24; rw [turnAt_length]; omega
  · rw [e]; exact h
  · rw [e]; show (putAt _ _ _ _).length ≤ 24; rw [putAt_length]; omega
theorem takeP_length_le {l : List Bk} (k : ByteArray) (now : Int) : (takeP l k now).1.length ≤ l.length + 1 := by
  have hs := sweepP_length l now
  rcases takeP_cases l k now with ⟨e, _⟩ | ⟨e, _⟩ | ⟨e, _⟩ | ⟨e, _, _, _, h4⟩
  · rw [e]; exact Nat.le_succ _
  · rw [e]; show (turnAt _ _ _ _).length ≤ _; rw [turnAt_length]; omega
  · rw [e]; exact Nat.le_succ _
  · rw [e]; show (putAt _ _ _ _).length ≤ _; rw [putAt_length]; omega

/-- the row of the key that was taken -/
theorem takeP_key {T : Int} {l : List Bk} (hv : Valid T l) (k : ByteArray) {now : Int} (hok : (takeP l k now).2 = 0) :
    ∃ b ∈ (takeP l k now).1, kl b.key = kl k ∧ b.left = LeftP l k now - 1 ∧ LeftP l k now ≠ 0 ∧
      ((b.at_ = now ∧ LeftP l k now = 4) ∨ ∃ c ∈ l, kl c.key = kl k ∧ leftP c now ≠ 4 ∧ leftP c now = LeftP l k now ∧ b.at_ = c.at_ + whole c now * 25) := by
  have hsv := sweepP_valid hv now
  rcases takeP_cases l k now with ⟨e, _⟩ | ⟨e, h1, h2, h3⟩ | ⟨e, _⟩ | ⟨e, h1, h2, h3, h4⟩
  · rw [e] at hok; cases hok
  · rw [e]
    obtain ⟨c, hc, hck⟩ := hasKey_iff.1 h3
    have hL : LeftP l k now = leftP c now := by rw [← LeftP_sweep hv.sorted, LeftP_some hsv.sorted hc hck]
    exact ⟨_, turnAt_same hc hck, hck, rfl, h1, Or.inr ⟨c, (sweepP_mem.1 hc).1, hck, (sweepP_mem.1 hc).2, hL.symm, rfl⟩⟩
  · rw [e] at hok; cases hok
  · rw [e]
    have hL : LeftP l k now = 4 := by rw [← LeftP_sweep hv.sorted, LeftP_none (hasKey_false h3)]
    exact ⟨_, mem_putAt.2 (Or.inl rfl), rfl, rfl, h1, Or.inl ⟨rfl, hL⟩⟩
/-- the rows of other keys: those that were not full -/
theorem takeP_other {l : List Bk} (k : ByteArray) {now : Int} (hok : (takeP l k now).2 = 0) {b : Bk} (hk : kl b.key ≠ kl k) :
    b ∈ (takeP l k now).1 ↔ b ∈ sweepP l now := by
  rcases takeP_cases l k now with ⟨e, _⟩ | ⟨e, h1, h2, h3⟩ | ⟨e, _⟩ | ⟨e, h1, h2, h3, h4⟩
  · rw [e] at hok; cases hok
  · rw [e]
    constructor
    · intro h
      rcases mem_turnAt h with ⟨c, _, hck, rfl⟩ | ⟨h, _⟩
      · exact absurd hck hk
      · exact h
    · intro h; exact turnAt_other h hk
  · rw [e] at hok; cases hok
  · rw [e]
    constructor
    · intro h
      rcases mem_putAt.1 h with rfl | h
      · exact absurd rfl hk
      · exact h
    · intro h; exact mem_putAt.2 (Or.inr h)

/-! ### what is left behind a take -/
theorem LeftP_eq_of_mem {l l' : List Bk} (hs : Sorted l) (hs' : Sorted l') {k : ByteArray} (h : ∀ b : Bk, kl b.key = kl k → (b ∈ l ↔ b ∈ l')) (now : Int) : LeftP l k now = LeftP l' k now := by
  rcases key_cases l k with ⟨b, hb, he⟩ | hn
  · rw [LeftP_some hs hb he, LeftP_some hs' ((h b he).1 hb) he]
  · rw [LeftP_none hn, LeftP_none]
    intro b hb he
    exact hn b ((h b he).2 hb) he

theorem takeP_left_same {T : Int} {l : List Bk} (hv : Valid T l) (k : ByteArray) {now : Int} (h0 : 0 ≤ now) (hT : now ≤ T) (hok : (takeP l k now).2 = 0) :
    LeftP (takeP l k now).1 k now = LeftP l k now - 1 := by
  obtain ⟨b, hb, hk, hl, hn, hat⟩ := takeP_key hv k hok
  have hb4 := LeftP_bounds hv k now
  rw [LeftP_some (takeP_valid hv k h0 hT).sorted hb hk]
  have hw : whole b now = 0 := by
    apply whole_zero
    rcases hat with ⟨h, _⟩ | ⟨c, _, _, _, _, h⟩
    · omega
    · by_cases hc : c.at_ ≤ now
      · have := whole_bound c now hc; omega
      · have := whole_zero c now (by omega); omega
  unfold leftP
  rw [hw, hl]
  omega
theorem takeP_left_other {T : Int} {l : List Bk} (hv : Valid T l) (k k' : ByteArray) {now : Int} (h0 : 0 ≤ now) (hT : now ≤ T) (hk : kl k' ≠ kl k) :
    LeftP (takeP l k now).1 k' now = LeftP l k' now := by
  by_cases hok : (takeP l k now).2 = 0
  · rw [← LeftP_sweep hv.sorted k' now]
    apply LeftP_eq_of_mem (takeP_valid hv k h0 hT).sorted (sweepP_sorted hv.sorted now)
    intro b hb
    exact takeP_other k hok (by rw [hb]; exact hk)
  · rcases takeP_cases l k now with ⟨e, _⟩ | ⟨e, _⟩ | ⟨e, _⟩ | ⟨e, _⟩
    · rw [e]
    · rw [e] at hok; exact absurd rfl hok
    · rw [e]
    · rw [e] at hok; exact absurd rfl hok
/-- with room, what a take answers -/
theorem takeP_err {l : List Bk} (k : ByteArray) (now : Int) (hlen : l.length < 24) : (takeP l k now).2 = if LeftP l k now = 0 ∨ kl k = [] then 22 else 0 := by
  have hs := sweepP_length l now
  rcases takeP_cases l k now with ⟨e, h⟩ | ⟨e, h1, h2, _⟩ | ⟨e, h1, h2, _, h4⟩ | ⟨e, h1, h2, _⟩
  · rw [e, if_pos h]
  · rw [e, if_neg (by rintro (h | h); exact h1 h; exact h2 h)]
  · omega
  · rw [e, if_neg (by rintro (h | h); exact h1 h; exact h2 h)]
theorem takeP_unchanged {l : List Bk} (k : ByteArray) (now : Int) (h : (takeP l k now).2 ≠ 0) : (takeP l k now).1 = l := by
  rcases takeP_cases l k now with ⟨e, _⟩ | ⟨e, _⟩ | ⟨e, _⟩ | ⟨e, _⟩
  · rw [e]
  · rw [e] at h; exact absurd rfl h
  · rw [e]
  · rw [e] at h; exact absurd rfl h
theorem takeP_code (l : List Bk) (k : ByteArray) (now : Int) : (takeP l k now).2 = 0 ∨ (takeP l k now).2 = 22 ∨ (takeP l k now).2 = 15 := by
  rcases takeP_cases l k now with ⟨e, _⟩ | ⟨e, _⟩ | ⟨e, _⟩ | ⟨e, _⟩ <;> rw [e] <;> simp

/-! ### the waits -/
theorem waits {l : List Bk} (hv : Valid 127 l) (k : ByteArray) {now : Int} (hn : 127 ≤ now) :
    0 ≤ waitP l k now ∧ waitP l k now ≤ 25 ∧ (waitP l k now = 0 ↔ 0 < LeftP l k now) ∧ 1 ≤ LeftP l k (now + waitP l k now) ∧ (waitP l k now = 0 ∨ LeftP l k (now + waitP l k now - 1) = 0) := by
  rcases key_cases l k with ⟨b, hb, he⟩ | h
  · rw [LeftP_some hv.sorted hb he, LeftP_some hv.sorted hb he, LeftP_some hv.sorted hb he, waitP_some hv.sorted hb he]
    have h1 := hv.left0 b hb
    have h2 := hv.at0 b hb
    by_cases hp : 0 < leftP b now
    · rw [if_pos hp]
      refine ⟨by omega, by omega, by simp [hp], ?_, Or.inl rfl⟩
      rw [Int.add_zero]; omega
    · rw [if_neg hp]
      unfold leftP at hp ⊢
      unfold whole at hp ⊢
      refine ⟨by omega, by omega, by omega, by omega, Or.inr (by omega)⟩
  · rw [LeftP_none h, LeftP_none h, waitP_none h]
    exact ⟨by omega, by omega, by simp, by omega, Or.inl rfl⟩

/-! ### what is left never falls -/
theorem leftP_mono (b : Bk) {s t : Int} (h : s ≤ t) : leftP b s ≤ leftP b t := by unfold leftP whole; omega
theorem LeftP_mono {l : List Bk} (hs : Sorted l) (k : ByteArray) {s t : Int} (h : s ≤ t) : LeftP l k s ≤ LeftP l k t := by
  rcases key_cases l k with ⟨b, hb, he⟩ | hn
  · rw [LeftP_some hs hb he, LeftP_some hs hb he]; exact leftP_mono b h
  · rw [LeftP_none hn, LeftP_none hn]; exact Int.le_refl _

/-! ### rows in one order -/
theorem sorted_ext {l l' : List Bk} (hs : Sorted l) (hs' : Sorted l') (h : ∀ b, b ∈ l ↔ b ∈ l') : l = l' := by
  induction l generalizing l' with
  | nil =>
    cases l' with
    | nil => rfl
    | cons y l' => exact absurd ((h y).2 (by simp)) (by simp)
  | cons x l ih =>
    cases l' with
    | nil => exact absurd ((h x).1 (by simp)) (by simp)
    | cons y l' =>
      have hx := List.pairwise_cons.1 hs
      have hy := List.pairwise_cons.1 hs'
      have hxy : x = y := by
        rcases List.mem_cons.1 ((h x).1 (by simp)) with e | e
        · exact e
        · rcases List.mem_cons.1 ((h y).2 (by simp)) with e' | e'
          · exact e'.symm
          · exact absurd (lt_trans' (hx.1 y e') (hy.1 x e)) (lt_irrefl' _)
      subst hxy
      congr 1
      refine ih hx.2 hy.2 ?_
      intro b
      constructor
      · intro hb
        rcases List.mem_cons.1 ((h b).1 (List.mem_cons_of_mem _ hb)) with e | e
        · subst e; exact absurd (hx.1 b hb) (lt_irrefl' _)
        · exact e
      · intro hb
        rcases List.mem_cons.1 ((h b).2 (List.mem_cons_of_mem _ hb)) with e | e
        · subst e; exact absurd (hy.1 b hb) (lt_irrefl' _)
        · exact e

/-- the row that a take leaves of its key -/
def newRow (l : List Bk) (k : ByteArray) (now : Int) : Bk :=
  match (sweepP l now).find? (fun b => decide (kl b.key = kl k)) with
  | some c => ⟨k, leftP c now - 1, c.at_ + whole c now * 25⟩
  | none => ⟨k, 3, now⟩
theorem takeP_mem {T : Int} {l : List Bk} (hv : Valid T l) (k : ByteArray) {now : Int} (h0 : 0 ≤ now) (hT : now ≤ T) (hok : (takeP l k now).2 = 0) (b : Bk) :
    b ∈ (takeP l k now).1 ↔ b = newRow l k now ∨ (kl b.key ≠ kl k ∧ b ∈ sweepP l now) := by
  have hsv := sweepP_valid hv now
  have hmem : newRow l k now ∈ (takeP l k now).1 ∧ kl (newRow l k now).key = kl k := by
    unfold newRow
    rcases takeP_cases l k now with ⟨e, _⟩ | ⟨e, h1, h2, h3⟩ | ⟨e, _⟩ | ⟨e, h1, h2, h3, h4⟩
    · rw [e] at hok; cases hok
    · rw [e]
      obtain ⟨c, hc, hck⟩ := hasKey_iff.1 h3
      rw [find_of_mem hsv.sorted hc hck]
      have hL : LeftP l k now = leftP c now := by rw [← LeftP_sweep hv.sorted, LeftP_some hsv.sorted hc hck]
      have := turnAt_same (k := k) (n := leftP c now) (now := now) hc hck
      rw [kl_inj hck] at this
      rw [hL]
      exact ⟨this, rfl⟩
    · rw [e] at hok; cases hok
    · rw [e, find_none_iff.2 (hasKey_false h3)]
      have hL : LeftP l k now = 4 := by rw [← LeftP_sweep hv.sorted, LeftP_none (hasKey_false h3)]
      rw [hL]
      exact ⟨mem_putAt.2 (Or.inl rfl), rfl⟩
  have hs := (takeP_valid hv k h0 hT).sorted
  constructor
  · intro hb
    by_cases hk : kl b.key = kl k
    · exact Or.inl (hs.unique hb hmem.1 (hk.trans hmem.2.symm))
    · exact Or.inr ⟨hk, (takeP_other k hok hk).1 hb⟩
  · rintro (rfl | ⟨hk, hb⟩)
    · exact hmem.1
    · exact (takeP_other k hok hk).2 hb
theorem newRow_key (l : List Bk) (k : ByteArray) (now : Int) : (newRow l k now).key = k := by unfold newRow; split <;> rfl
theorem newRow_congr {l l' : List Bk} (hs : Sorted l) (hs' : Sorted l') (k : ByteArray) (now : Int) (h : ∀ b : Bk, kl b.key = kl k → (b ∈ sweepP l now ↔ b ∈ sweepP l' now)) : newRow l k now = newRow l' k now := by
  unfold newRow
  rcases key_cases (sweepP l now) k with ⟨b, hb, he⟩ | hn
  · rw [find_of_mem (sweepP_sorted hs now) hb he, find_of_mem (sweepP_sorted hs' now) ((h b he).1 hb) he]
  · rw [find_none_iff.2 hn, find_none_iff.2]
    intro b hb he
    exact hn b ((h b he).2 hb) he
/-- the row of a key just taken isn't full -/
theorem newRow_left {T : Int} {l : List Bk} (hv : Valid T l) (k : ByteArray) (now : Int) : leftP (newRow l k now) now ≠ 4 := by
  unfold newRow
  split
  · rename_i c hf
    have hc := find_key hf
    have h4 := (sweepP_mem.1 hc.1).2
    have h3 := hv.left0 c (sweepP_mem.1 hc.1).1
    have hw : whole (⟨k, leftP c now - 1, c.at_ + whole c now * 25⟩ : Bk) now = 0 := by
      apply whole_zero
      by_cases hc : c.at_ ≤ now
      · have := whole_bound c now hc; show now < c.at_ + whole c now * 25 + 25; omega
      · have := whole_zero c now (by omega); show now < c.at_ + whole c now * 25 + 25; omega
    have h5 := whole_nonneg c now
    have e : leftP (⟨k, leftP c now - 1, c.at_ + whole c now * 25⟩ : Bk) now = min (leftP c now - 1 + 0) 4 := by
      rw [← hw]; rfl
    rw [e]
    have h6 : leftP c now ≤ 4 := by unfold leftP; omega
    omega
  · have : whole (⟨k, 3, now⟩ : Bk) now = 0 := whole_zero _ _ (by show now < now + 25; omega)
    have e : leftP (⟨k, 3, now⟩ : Bk) now = min (3 + 0) 4 := by
      rw [← this]; rfl
    rw [e]
    decide

theorem later {T : Int} {r : List Bk} (hv : Valid T r) (a b : ByteArray) {now : Int} (h0 : 0 ≤ now) (hT : now ≤ T) (hlen : r.length ≤ 20) :
    let x := (takeP r a now).1
    let z := (takeP r b now).1
    (a = b ∨ ((takeP r a now).2 = (takeP z a now).2 ∧ (takeP x b now).2 = (takeP r b now).2)) ∧
    ((takeP r a now).2 = 0 → (takeP x b now).2 = 0 → (takeP r b now).2 = 0 → (takeP z a now).2 = 0 → (takeP x b now).1 = (takeP z a now).1) := by
  intro x z
  have hvx : Valid T x := takeP_valid hv a h0 hT
  have hvz : Valid T z := takeP_valid hv b h0 hT
  have hlx : x.length ≤ r.length + 1 := takeP_length_le a now
  have hlz : z.length ≤ r.length + 1 := takeP_length_le b now
  by_cases hab : a = b
  · subst hab
    exact ⟨Or.inl rfl, fun _ _ _ _ => rfl⟩
  · have hk : kl a ≠ kl b := fun h => hab (kl_inj h)
    refine ⟨Or.inr ⟨?_, ?_⟩, ?_⟩
    · rw [takeP_err a now (by omega), takeP_err a now (by omega), takeP_left_other hv b a h0 hT hk]
    · rw [takeP_err b now (by omega), takeP_err b now (by omega), takeP_left_other hv a b h0 hT (Ne.symm hk)]
    · intro e1 e2 e3 e4
      apply sorted_ext (takeP_valid hvx b h0 hT).sorted (takeP_valid hvz a h0 hT).sorted
      have sx : ∀ c : Bk, kl c.key ≠ kl a → (c ∈ sweepP x now ↔ c ∈ sweepP r now) := by
        intro c hc
        rw [sweepP_mem, takeP_mem hv a h0 hT e1]
        constructor
        · rintro ⟨h | ⟨_, h⟩, _⟩
          · rw [h, newRow_key] at hc; exact absurd rfl hc
          · exact h
        · intro h
          exact ⟨Or.inr ⟨hc, h⟩, (sweepP_mem.1 h).2⟩
      have sz : ∀ c : Bk, kl c.key ≠ kl b → (c ∈ sweepP z now ↔ c ∈ sweepP r now) := by
        intro c hc
        rw [sweepP_mem, takeP_mem hv b h0 hT e3]
        constructor
        · rintro ⟨h | ⟨_, h⟩, _⟩
          · rw [h, newRow_key] at hc; exact absurd rfl hc
          · exact h
        · intro h
          exact ⟨Or.inr ⟨hc, h⟩, (sweepP_mem.1 h).2⟩
      have nb : newRow x b now = newRow r b now := newRow_congr hvx.sorted hv.sorted b now fun c hc => sx c (by rw [hc]; exact Ne.symm hk)
      have na : newRow z a now = newRow r a now := newRow_congr hvz.sorted hv.sorted a now fun c hc => sz c (by rw [hc]; exact hk)
      have ra : newRow r a now ∈ sweepP x now := by
        rw [sweepP_mem, takeP_mem hv a h0 hT e1]
        exact ⟨Or.inl rfl, newRow_left hv a now⟩
      have rb : newRow r b now ∈ sweepP z now := by
        rw [sweepP_mem, takeP_mem hv b h0 hT e3]
        exact ⟨Or.inl rfl, newRow_left hv b now⟩
      intro c
      rw [takeP_mem hvx b h0 hT e2, takeP_mem hvz a h0 hT e4, nb, na]
      by_cases hca : kl c.key = kl a
      · have hcb : kl c.key ≠ kl b := by rw [hca]; exact hk
        constructor
        · rintro (h | ⟨_, h⟩)
          · rw [h, newRow_key] at hcb; exact absurd rfl hcb
          · have hra : kl (newRow r a now).key = kl a := by rw [newRow_key]
            exact Or.inl ((sweepP_sorted hvx.sorted now).unique h ra (hca.trans hra.symm))
        · rintro (h | ⟨h, _⟩)
          · rw [h]
            exact Or.inr ⟨by rw [newRow_key]; exact hk, ra⟩
          · exact absurd hca h
      · by_cases hcb : kl c.key = kl b
        · constructor
          · rintro (h | ⟨h, _⟩)
            · rw [h]
              exact Or.inr ⟨by rw [newRow_key]; exact Ne.symm hk, rb⟩
            · exact absurd hcb h
          · rintro (h | ⟨_, h⟩)
            · rw [h, newRow_key] at hca; exact absurd rfl hca
            · have hrb : kl (newRow r b now).key = kl b := by rw [newRow_key]
              exact Or.inl ((sweepP_sorted hvz.sorted now).unique h rb (hcb.trans hrb.symm))
        · constructor
          · rintro (h | ⟨_, h⟩)
            · rw [h, newRow_key] at hcb; exact absurd rfl hcb
            · exact Or.inr ⟨hca, (sz c hcb).2 ((sx c hca).1 h)⟩
          · rintro (h | ⟨_, h⟩)
            · rw [h, newRow_key] at hca; exact absurd rfl hca
            · exact Or.inr ⟨hcb, (sx c hca).2 ((sz c hcb).1 h)⟩

theorem apart {T : Int} {r : List Bk} (hv : Valid T r) (a b : ByteArray) (ha : kl a ≠ []) {now : Int} (h0 : 0 ≤ now) (hT : now ≤ T) (hlen : r.length ≤ 20) :
    ((takeP r a now).2 ≠ 0 → (takeP r a now).2 = 22 ∧ (takeP r a now).1 = r ∧ LeftP r a now = 0) ∧
    ((takeP r a now).2 = 0 → LeftP (takeP r a now).1 a now = LeftP r a now - 1 ∧ (a = b ∨ LeftP (takeP r a now).1 b now = LeftP r b now)) := by
  refine ⟨?_, ?_⟩
  · intro h
    refine ⟨?_, takeP_unchanged a now h, ?_⟩
    · rw [takeP_err a now (by omega)] at h ⊢
      by_cases hc : LeftP r a now = 0 ∨ kl a = []
      · rw [if_pos hc]
      · rw [if_neg hc] at h; exact absurd rfl h
    · rw [takeP_err a now (by omega)] at h
      by_cases hc : LeftP r a now = 0 ∨ kl a = []
      · rcases hc with h | h
        · exact h
        · exact absurd h ha
      · rw [if_neg hc] at h; exact absurd rfl h
  · intro h
    refine ⟨takeP_left_same hv a h0 hT h, ?_⟩
    by_cases hab : a = b
    · exact Or.inl hab
    · exact Or.inr (takeP_left_other hv a b h0 hT fun h => hab (kl_inj h).symm)

/-! ### how many within some ticks -/
def credit (l : List Bk) (k : ByteArray) (t : Int) : Int :=
  match l.find? (fun b => decide (kl b.key = kl k)) with
  | some b => min 100 (25 * b.left + (t - b.at_))
  | none => 100
theorem credit_some {l : List Bk} (hs : Sorted l) {b : Bk} (hb : b ∈ l) {k : ByteArray} (h : kl b.key = kl k) (t : Int) : credit l k t = min 100 (25 * b.left + (t - b.at_)) := by
  unfold credit; rw [find_of_mem hs hb h]
theorem credit_none {l : List Bk} {k : ByteArray} (h : ∀ b ∈ l, kl b.key ≠ kl k) (t : Int) : credit l k t = 100 := by
  unfold credit; rw [find_none_iff.2 h]
theorem credit_later {l : List Bk} (hs : Sorted l) (k : ByteArray) {s t : Int} (h : s ≤ t) : credit l k t ≤ credit l k s + (t - s) := by
  rcases key_cases l k with ⟨b, hb, he⟩ | hn
  · rw [credit_some hs hb he, credit_some hs hb he]; omega
  · rw [credit_none hn, credit_none hn]; omega
theorem credit_bounds {T : Int} {l : List Bk} (hv : Valid T l) (k : ByteArray) {t : Int} (h : T ≤ t) : 0 ≤ credit l k t ∧ credit l k t ≤ 100 := by
  rcases key_cases l k with ⟨b, hb, he⟩ | hn
  · rw [credit_some hv.sorted hb he]
    have := hv.left0 b hb
    have := hv.at0 b hb
    omega
  · rw [credit_none hn]; omega
theorem credit_take {l : List Bk} (k : ByteArray) {t : Int} (hv : Valid t l) (h0 : 0 ≤ t) (hok : (takeP l k t).2 = 0) :
    credit (takeP l k t).1 k t = credit l k t - 25 ∧ 25 ≤ credit l k t := by
  have hv' := takeP_valid hv k h0 (Int.le_refl t)
  have hm : newRow l k t ∈ (takeP l k t).1 := (takeP_mem hv k h0 (Int.le_refl t) hok _).2 (Or.inl rfl)
  rw [credit_some hv'.sorted hm (by rw [newRow_key])]
  have hL : LeftP l k t ≠ 0 := by
    rcases takeP_cases l k t with ⟨e, _⟩ | ⟨e, h1, _⟩ | ⟨e, _⟩ | ⟨e, h1, _⟩
    · rw [e] at hok; cases hok
    · exact h1
    · rw [e] at hok; cases hok
    · exact h1
  unfold newRow
  rcases key_cases (sweepP l t) k with ⟨c, hc, he⟩ | hn
  · rw [find_of_mem (sweepP_sorted hv.sorted t) hc he]
    have hc' := sweepP_mem.1 hc
    rw [credit_some hv.sorted hc'.1 he]
    rw [LeftP_some hv.sorted hc'.1 he] at hL
    have h3 := hv.left0 c hc'.1
    have h4 := hv.at0 c hc'.1
    have h5 := whole_bound c t h4.2
    have h6 := whole_nonneg c t
    have h7 := hc'.2
    unfold leftP at hL h7
    show min 100 (25 * (leftP c t - 1) + (t - (c.at_ + whole c t * 25))) = _ ∧ _
    unfold leftP
    omega
  · rw [find_none_iff.2 hn]
    show min 100 (25 * 3 + (t - t)) = _ ∧ _
    rcases key_cases l k with ⟨b, hb, he⟩ | hn'
    · rw [credit_some hv.sorted hb he]
      have h4 : leftP b t = 4 := by
        by_cases h4 : leftP b t = 4
        · exact h4
        · exact absurd he (hn b (sweepP_mem.2 ⟨hb, h4⟩))
      have h3 := hv.left0 b hb
      have h5 := whole_bound b t (hv.at0 b hb).2
      unfold leftP at h4
      omega
    · rw [credit_none hn']; omega
theorem credit_other {l : List Bk} (k k' : ByteArray) {t : Int} (hv : Valid t l) (h0 : 0 ≤ t) (hk : kl k' ≠ kl k) : credit (takeP l k t).1 k' t = credit l k' t := by
  by_cases hok : (takeP l k t).2 = 0
  · have hv' := takeP_valid hv k h0 (Int.le_refl t)
    rcases key_cases l k' with ⟨b, hb, he⟩ | hn
    · rw [credit_some hv.sorted hb he]
      by_cases h4 : leftP b t = 4
      · rw [credit_none]
        · have h3 := hv.left0 b hb
          have h5 := whole_bound b t (hv.at0 b hb).2
          unfold leftP at h4
          omega
        · intro c hc hck
          have := sweepP_mem.1 ((takeP_other k hok (by rw [hck]; exact hk)).1 hc)
          have e := hv.sorted.unique this.1 hb (hck.trans he.symm)
          subst e
          exact this.2 h4
      · rw [credit_some hv'.sorted ((takeP_other k hok (by rw [he]; exact hk)).2 (sweepP_mem.2 ⟨hb, h4⟩)) he]
    · rw [credit_none hn, credit_none]
      intro c hc hck
      exact hn c (sweepP_mem.1 ((takeP_other k hok (by rw [hck]; exact hk)).1 hc)).1 hck
  · rw [takeP_unchanged k t hok]

/-- what holds of the times of one key's takes: any of them and a later one lie so far apart; and what credit is left -/
structure Took (l : List Bk) (k : ByteArray) (now : Int) (at_ : List Int) : Prop where
  apart : ∀ i j (hi : i ≤ j) (hj : j < at_.length), 25 * ((j : Int) - i + 1) ≤ 100 + (at_[j] - at_[i]'(by omega))
  credit : ∀ i (hi : i < at_.length), credit l k now + 25 * ((at_.length : Int) - i) ≤ 100 + (now - at_[i])
theorem Took.nil (l : List Bk) (k : ByteArray) (now : Int) : Took l k now [] := ⟨fun _ _ _ h => absurd h (by simp), fun _ h => absurd h (by simp)⟩
theorem Took.later {l : List Bk} {k : ByteArray} {now t : Int} {at_ : List Int} (h : Took l k now at_) (hs : Sorted l) (ht : now ≤ t) : Took l k t at_ :=
  ⟨h.apart, fun i hi => by have := h.credit i hi; have := credit_later hs k ht; omega⟩
theorem Took.take {l : List Bk} {k : ByteArray} {t : Int} {at_ : List Int} (h : Took l k t at_) (hv : Valid t l) (h0 : 0 ≤ t) (hok : (takeP l k t).2 = 0) : Took (takeP l k t).1 k t (at_ ++ [t]) := by
  have hc := credit_take k hv h0 hok
  have hv' := takeP_valid hv k h0 (Int.le_refl t)
  have hb := credit_bounds hv' k (Int.le_refl t)
  have hb0 := credit_bounds hv k (Int.le_refl t)
  have key : ∀ i (hi : i < (at_ ++ [t]).length), Go.Proofs.Ytpfogfglkknmoaa.credit (takeP l k t).1 k t + 25 * (((at_ ++ [t]).length : Int) - i) ≤ 100 + (t - (at_ ++ [t])[i]) := by
    intro i hi
    simp only [List.length_append, List.length_singleton] at hi ⊢
    by_cases hlt : i < at_.length
    · rw [List.getElem_append_left hlt]
      have := h.credit i hlt
      push_cast
      omega
    · have e : i = at_.length := by omega
      subst e
      rw [List.getElem_append_right (Nat.le_refl _)]
      simp only [Nat.sub_self, List.getElem_cons_zero]
      push_cast
      omega
  refine ⟨?_, key⟩
  intro i j hi hj
  have hj' : j < at_.length + 1 := by simpa using hj
  by_cases hlt : j < at_.length
  · rw [List.getElem_append_left hlt, List.getElem_append_left (show i < at_.length from by omega)]
    exact h.apart i j hi hlt
  · have e : j = at_.length := by omega
    subst e
    have := key i (by simp; omega)
    rw [List.getElem_append_right (Nat.le_refl _)]
    simp only [Nat.sub_self, List.getElem_cons_zero, List.length_append, List.length_singleton] at this ⊢
    omega
theorem Took.same {l l' : List Bk} {k : ByteArray} {t : Int} {at_ : List Int} (h : Took l k t at_) (hc : Go.Proofs.Ytpfogfglkknmoaa.credit l' k t = Go.Proofs.Ytpfogfglkknmoaa.credit l k t) : Took l' k t at_ :=
  ⟨h.apart, fun i hi => by rw [hc]; exact h.credit i hi⟩
theorem Took.other {l : List Bk} {k k' : ByteArray} {t : Int} {at_ : List Int} (h : Took l k' t at_) (hv : Valid t l) (h0 : 0 ≤ t) (hk : kl k' ≠ kl k) : Took (takeP l k t).1 k' t at_ :=
  h.same (credit_other k k' hv h0 hk)
theorem Valid.later {T U : Int} {l : List Bk} (h : Valid T l) (hT : T ≤ U) : Valid U l := ⟨h.sorted, h.nonempty, h.left0, fun b hb => by have := h.at0 b hb; omega⟩
/-- so many takes within w ticks are no more than Most tells -/
theorem most_bound {at_ : List Int} (h : ∀ i j (hi : i ≤ j) (hj : j < at_.length), 25 * ((j : Int) - i + 1) ≤ 100 + (at_[j] - at_[i]'(by omega))) {i j : Nat} (hi : i ≤ j) (hj : j < at_.length) {w n : Int} (hw : 1 ≤ w) (hw2 : w ≤ 256)
    (hn : n ≤ j - i + 1) (hlt : at_[j] < at_[i]'(by omega) + w) : n ≤ mostP w := by
  have := h i j hi hj
  unfold mostP
  rw [if_neg (by omega)]
  omega

/-! ### full rows -/
theorem full_left (b : Bk) (h : b.left = 0) (t : Int) : leftP b t = 4 ↔ b.at_ + 100 ≤ t := by unfold leftP whole; omega
/-- rows of nothing left, all there may be, and a key that is none of them -/
theorem full_none {T : Int} {l : List Bk} (hv : Valid T l) (h0 : ∀ b ∈ l, b.left = 0) {k : ByteArray} (hk : kl k ≠ []) (hn : ∀ b ∈ l, kl b.key ≠ kl k) (hlen : l.length = 24) (t : Int) :
    ((∀ b ∈ l, t < b.at_ + 100) → takeP l k t = (l, 15)) ∧
    ((∃ b ∈ l, b.at_ + 100 ≤ t) → (takeP l k t).2 = 0 ∧ (takeP l k t).1.length ≤ 24 ∧ (0 ≤ t → T ≤ t → LeftP (takeP l k t).1 k t = 3)) := by
  have hL : LeftP l k t = 4 := LeftP_none hn t
  have hh : ¬ hasKey (sweepP l t) k = true := by
    intro h
    obtain ⟨b, hb, he⟩ := hasKey_iff.1 h
    exact hn b (sweepP_mem.1 hb).1 he
  refine ⟨?_, ?_⟩
  · intro h
    have hs : sweepP l t = l := by
      unfold sweepP
      rw [List.filter_eq_self]
      intro b hb
      have : ¬ leftP b t = 4 := by rw [full_left b (h0 b hb)]; have := h b hb; omega
      simp [this]
    unfold takeP
    rw [if_neg (by rintro (h | h); omega; exact hk h), if_neg hh, hs, if_pos (by omega)]
  · rintro ⟨b, hb, hbt⟩
    have hlt : (sweepP l t).length < 24 := by
      rw [← hlen]
      unfold sweepP
      rw [List.length_filter_lt_length_iff_exists]
      exact ⟨b, hb, by simp [(full_left b (h0 b hb) t).2 hbt]⟩
    have e : takeP l k t = (putAt (sweepP l t) k 4 t, 0) := by
      unfold takeP
      rw [if_neg (by rintro (h | h); omega; exact hk h), if_neg hh, if_neg (by omega), hL]
    refine ⟨by rw [e], by rw [e]; show (putAt _ _ _ _).length ≤ 24; rw [putAt_length]; omega, ?_⟩
    intro ht0 hT
    have h2 : (takeP l k t).2 = 0 := by rw [e]
    have := takeP_left_same (hv.later hT) k ht0 (Int.le_refl t) h2
    omega

end Go.Proofs.Ytpfogfglkknmoaa
