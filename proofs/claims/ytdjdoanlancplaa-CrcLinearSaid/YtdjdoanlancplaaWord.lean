/- Registers as the model's integers: what each operation on them comes to. -/
import Derived.Test.YtdjdoanlancplaaRows
import Derived.Test.YtdjdoanlancplaaPlain
import Derived.WalkKit
import Derived.WalkLawsBesides
import Derived.WalkSpells
import Derived.Outline
import Derived.Lib.Hide
import Derived.Laws.BitsAllLaws
namespace Go.Proofs.Ytdjdoanlancplaa
open Go.RowKit

/-- a register as an integer -/
def wi (X : W32) : Int := (X.toNat : Int)
def IsW (n : Int) (X : W32) : Prop := n = (X.toNat : Int)
theorem wi_is (X : W32) : IsW (wi X) X := rfl
theorem IsW.eq {n : Int} {X : W32} (h : IsW n X) : n = wi X := h
theorem wi_bd (X : W32) : 0 ≤ wi X ∧ wi X < 4294967296 := by unfold wi; have := X.isLt; omega
theorem IsW.bd {n : Int} {X : W32} (h : IsW n X) : 0 ≤ n ∧ n < 4294967296 := by rw [h.eq]; exact wi_bd X
theorem IsW.inj {n m : Int} {X Y : W32} (h : IsW n X) (h' : IsW m Y) (e : n = m) : X = Y := by
  unfold IsW at h h'
  apply BitVec.eq_of_toNat_eq
  omega
theorem wi_inj {X Y : W32} (e : wi X = wi Y) : X = Y := (wi_is X).inj (wi_is Y) e
theorem wi_beq (X Y : W32) : (wi X == wi Y) = decide (X = Y) := by
  by_cases h : X = Y
  · subst h; simp
  · have : wi X ≠ wi Y := fun e => h (wi_inj e)
    simp [h, this]
theorem IsW.xor {a b : Int} {A B : W32} (ha : IsW a A) (hb : IsW b B) : IsW (bits .xor .u32 a b) (A ^^^ B) := by
  unfold IsW at *
  subst ha hb
  rw [u32_xor_nat _ _ A.isLt B.isLt, BitVec.toNat_xor]
theorem IsW.and {a b : Int} {A B : W32} (ha : IsW a A) (hb : IsW b B) : IsW (bits .and .u32 a b) (A &&& B) := by
  unfold IsW at *
  subst ha hb
  rw [u32_and_nat _ _ A.isLt B.isLt, BitVec.toNat_and]
theorem IsW.shr {a : Int} {A : W32} (ha : IsW a A) (k : Nat) (d : Int) (hd : d = 2 ^ k) : IsW (a / d) (A >>> k) := by
  unfold IsW at *
  subst ha hd
  rw [BitVec.toNat_ushiftRight, Nat.shiftRight_eq_div_pow]
  norm_cast
theorem IsW.all : IsW 4294967295 all1 := rfl
theorem IsW.lit15 : IsW 15 15#32 := rfl
theorem IsW.lit1 : IsW 1 1#32 := rfl
theorem IsW.lit0 : IsW 0 0#32 := rfl
theorem IsW.poly : IsW 3988292384 0xedb88320#32 := rfl
theorem IsW.byte (c : UInt8) : IsW (c.toNat : Int) (ext c) := by unfold IsW; rw [ext_toNat]
theorem and1 (A : W32) : A &&& 1#32 = if A.getLsbD 0 then 1#32 else 0#32 := by
  apply BitVec.eq_of_getLsbD_eq
  intro i hi
  rw [BitVec.getLsbD_and]
  by_cases h : i = 0
  · subst h
    cases A.getLsbD 0 <;> decide
  · have : (1#32).getLsbD i = false := by
      rw [show (1#32 : W32) = BitVec.twoPow 32 0 from by decide, BitVec.getLsbD_twoPow]
      simp; omega
    rw [this, Bool.and_false]
    cases A.getLsbD 0
    · simp
    · simp only [if_true, this]
/-- the lowest bit, as the code asks for it -/
theorem IsW.low {b : Int} {B : W32} (hb : IsW b B) : bits .and .u32 b 1 = if B.getLsbD 0 then 1 else 0 := by
  have h := hb.and IsW.lit1
  rw [and1] at h
  rw [h.eq]
  cases B.getLsbD 0 <;> rfl
theorem and_two (A : W32) (j : Nat) (hj : j < 32) : A &&& BitVec.twoPow 32 j = if A.getLsbD j then BitVec.twoPow 32 j else 0#32 := by
  apply BitVec.eq_of_getLsbD_eq
  intro i hi
  rw [BitVec.getLsbD_and, BitVec.getLsbD_twoPow]
  by_cases h : j = i
  · subst h
    cases hb : A.getLsbD j <;> simp [hj]
  · cases hb : A.getLsbD j <;> simp [h]
theorem IsW.bit {a t : Int} {A : W32} {j : Nat} (hj : j < 32) (ha : IsW a A) (ht : IsW t (BitVec.twoPow 32 j)) : (bits .and .u32 a t != 0) = A.getLsbD j := by
  have h := ha.and ht
  rw [and_two A j hj] at h
  cases hb : A.getLsbD j
  · rw [hb] at h
    have : bits .and .u32 a t = 0 := h.eq
    rw [this]; rfl
  · rw [hb] at h
    have hp : (BitVec.twoPow 32 j).toNat = 2 ^ j := by
      rw [BitVec.toNat_twoPow]
      exact Nat.mod_eq_of_lt (Nat.pow_lt_pow_right (by omega) hj)
    have : bits .and .u32 a t = ((2 ^ j : Nat) : Int) := by
      have := h.eq
      simp only [if_true] at this
      rw [this]; unfold wi; rw [hp]
    rw [this]
    have hpos : 0 < 2 ^ j := Nat.pow_pos (by omega)
    simp only [bne_iff_ne, ne_eq]
    omega

end Go.Proofs.Ytdjdoanlancplaa
