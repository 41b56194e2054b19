/- A sealed text with four bytes turned: the plain law. -/
import Derived.Test.YtdjdoanlancplaaPlain
namespace Go.Proofs.Ytdjdoanlancplaa

/-- byte j of the text behind i rounds -/
def turnAt (l y : List UInt8) (k i j : Nat) : UInt8 := if k ≤ j ∧ j < k + i then l.getD j 0 ^^^ y.getD (j - k) 0 else l.getD j 0
def turnL (l y : List UInt8) (k i : Nat) : List UInt8 := (List.range l.length).map (turnAt l y k i)
theorem turnAt_zero (l y : List UInt8) (k j : Nat) : turnAt l y k 0 j = l.getD j 0 := by unfold turnAt; rw [if_neg (by omega)]
theorem turnAt_here (l y : List UInt8) (k i : Nat) : turnAt l y k i (k + i) = l.getD (k + i) 0 := by unfold turnAt; rw [if_neg (by omega)]
theorem turnAt_done (l y : List UInt8) (k i : Nat) : turnAt l y k (i + 1) (k + i) = l.getD (k + i) 0 ^^^ y.getD i 0 := by
  unfold turnAt; rw [if_pos (by omega), show k + i - k = i from by omega]
theorem turnAt_other (l y : List UInt8) (k i j : Nat) (h : j ≠ k + i) : turnAt l y k (i + 1) j = turnAt l y k i j := by
  unfold turnAt
  by_cases h1 : k ≤ j ∧ j < k + i
  · rw [if_pos h1, if_pos (by omega)]
  · rw [if_neg h1, if_neg (by omega)]
theorem turnL_length (l y : List UInt8) (k i : Nat) : (turnL l y k i).length = l.length := by unfold turnL; simp

theorem turnL_get (l y : List UInt8) (k i j : Nat) (h : j < (turnL l y k i).length) : (turnL l y k i)[j] = turnAt l y k i j := by simp [turnL]

theorem four (l : List UInt8) (k : Nat) (h : k + 4 ≤ l.length) :
    l = l.take k ++ [l.getD k 0, l.getD (k + 1) 0, l.getD (k + 2) 0, l.getD (k + 3) 0] ++ l.drop (k + 4) := by
  apply List.ext_getElem
  · simp; omega
  · intro j h1 h2
    by_cases a : j < k
    · rw [List.getElem_append_left (by simp; omega), List.getElem_append_left (by simp; omega), List.getElem_take]
    · by_cases b : j < k + 4
      · rw [List.getElem_append_left (by simp; omega), List.getElem_append_right (by simp; omega)]
        have hl : (l.take k).length = k := by simp; omega
        rcases (show j = k ∨ j = k + 1 ∨ j = k + 2 ∨ j = k + 3 from by omega) with rfl | rfl | rfl | rfl <;> simp [hl, List.getD_eq_getElem?_getD, List.getElem?_eq_getElem h1]
      · rw [List.getElem_append_right (by simp; omega), List.getElem_drop]
        congr 1
        simp
        omega
theorem turnL_four (l : List UInt8) (a b c d : UInt8) (k : Nat) (h : k + 4 ≤ l.length) :
    turnL l [a, b, c, d] k 4 = l.take k ++ [l.getD k 0 ^^^ a, l.getD (k + 1) 0 ^^^ b, l.getD (k + 2) 0 ^^^ c, l.getD (k + 3) 0 ^^^ d] ++ l.drop (k + 4) := by
  have hg : ∀ j, (h : j < l.length) → l.getD j 0 = l[j] := fun j h => by simp [List.getD_eq_getElem?_getD, List.getElem?_eq_getElem h]
  apply List.ext_getElem
  · simp [turnL_length]; omega
  · intro j h1 h2
    have h1' : j < l.length := by rw [turnL_length] at h1; exact h1
    rw [turnL_get l _ k 4 j h1]
    unfold turnAt
    by_cases x : j < k
    · rw [if_neg (by omega), List.getElem_append_left (by simp; omega), List.getElem_append_left (by simp; omega), List.getElem_take, hg j h1']
    · by_cases y : j < k + 4
      · rw [if_pos (by omega), List.getElem_append_left (by simp; omega), List.getElem_append_right (by simp; omega)]
        have hl : (l.take k).length = k := by simp; omega
        rcases (show j = k ∨ j = k + 1 ∨ j = k + 2 ∨ j = k + 3 from by omega) with rfl | rfl | rfl | rfl
        · simp [hl]
        · simp [hl, show k + 1 - k = 1 from by omega]
        · simp [hl, show k + 2 - k = 2 from by omega]
        · simp [hl, show k + 3 - k = 3 from by omega]
      · rw [if_neg (by omega), List.getElem_append_right (by simp; omega), List.getElem_drop, hg j h1']
        congr 1
        simp
        omega

/-- a text of four bytes and more is sealed just where its register comes to the fixed value -/
theorem sealed_reg (t : List UInt8) (h : 4 ≤ t.length) : (∃ l, t = l ++ le (crc l)) ↔ proc all1 t = sN 32 all1 := by
  have h4 := four t (t.length - 4) (by omega)
  rw [show t.length - 4 + 4 = t.length from by omega, List.drop_length, List.append_nil, ← le_word] at h4
  generalize t.take (t.length - 4) = s at h4
  generalize word (t.getD (t.length - 4) 0) (t.getD (t.length - 4 + 1) 0) (t.getD (t.length - 4 + 2) 0) (t.getD (t.length - 4 + 3) 0) = x at h4
  rw [h4, sealed_iff]
  constructor
  · rintro ⟨l, hl⟩
    have := List.append_inj' hl (by rw [le_length, le_length])
    rw [le_inj _ _ this.2, this.1]
  · intro hx
    exact ⟨s, by rw [hx]⟩

theorem turned_open (l : List UInt8) (a b c d : UInt8) (k : Nat) (h : k + 4 ≤ l.length) (hs : ∃ s, l = s ++ le (crc s)) :
    (∃ s, turnL l [a, b, c, d] k 4 = s ++ le (crc s)) ↔ (a = 0 ∧ b = 0 ∧ c = 0 ∧ d = 0) := by
  rw [sealed_reg _ (by rw [turnL_length]; omega), turnL_four l a b c d k h, ← (sealed_reg l (by omega)).1 hs]
  conv => lhs; rhs; rw [four l k h]
  exact turned all1 _ _ _ _ _ _ a b c d

end Go.Proofs.Ytdjdoanlancplaa
