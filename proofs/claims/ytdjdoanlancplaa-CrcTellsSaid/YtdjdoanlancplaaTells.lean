/- CrcTells: the walk of the law. -/
import Derived.Test.YtdjdoanlancplaaRefs
import Derived.Test.YtdjdoanlancplaaLaw
namespace Go.Proofs.Ytdjdoanlancplaa
open Go.RowKit
namespace Tells

theorem word_mod (z : Int) : ∃ X : W32, IsW (z % 4294967296) X := by
  refine ⟨BitVec.ofNat 32 (z % 4294967296).toNat, ?_⟩
  unfold IsW
  rw [BitVec.toNat_ofNat, Nat.mod_eq_of_lt (by omega)]
  omega
theorem list_append (a b : ByteArray) : (a ++ b).data.toList = a.data.toList ++ b.data.toList := by
  rw [ByteArray.data_append, Array.toList_append]
/-- Sum of two texts, the slice where it lies -/
theorem sum2_at (s t : ByteArray) (g : Nat) (W : World) (hs : s.size ≤ 1000000) (ht : t.size ≤ 1000000)
    (h0 : W.cell? ⟨g, 0, none⟩ = some (.string s)) (h1 : W.cell? ⟨g, 1, none⟩ = some (.string t)) (hg : g < W.heap.size) :
    Calls Try.prog 10 #[.slice (some ⟨g, 0, none⟩) 2 2] W fun e w' => e = .returned (.int .u32 (wi (crc (s ++ t).data.toList))) ∧ Below W.heap.size W w' := by
  have h := sum_any [s, t] g W (by simp) (by
    intro i h
    match i, h with
    | 0, _ => exact hs
    | 1, _ => exact ht) hg (by
    intro i h
    match i, h with
    | 0, _ => exact h0
    | 1, _ => exact h1)
  refine h.mono ?_
  rintro e w' ⟨rfl, hb⟩
  exact ⟨by rw [list_append]; simp [cat], hb⟩

set_option maxHeartbeats 4000000 in
theorem walk (s : ByteArray) (_ : s.size ≤ maxLen) (t : ByteArray) (_ : t.size ≤ maxLen) (q0 q1 q2 : Int) (_ : ∀ z ∈ [q0, q1, q2], (Lit.int .i64 z).wf = true) (w : World) :
    Calls Try.prog 8 #[.string s, .string t, .agg #[.int .i64 q0, .int .i64 q1, .int .i64 q2]] w fun e w' => e = .returned (.bool true) ∧ Below w.heap.size w w' := by
  obtain ⟨r, hr⟩ : ∃ r, q2.tmod 2001 = r := ⟨_, rfl⟩
  have hr1 : -2001 < r ∧ r < 2001 := by rw [← hr]; have := Int.tmod_lt_of_pos q2 (show (0 : Int) < 2001 by omega); have := Int.lt_tmod_of_pos q2 (show (0 : Int) < 2001 by omega); omega
  obtain ⟨X, hX⟩ := word_mod q0
  obtain ⟨Y, hY⟩ := word_mod q1
  go_enter Try.func8, Try.ntmps8
  go_wp2_with fail
  refine (awake_any _).mono ?_
  rintro e w1 ⟨rfl, hb1⟩
  have c0 := (hb1.cell (p := ⟨w.heap.size, 0, none⟩) (by simp)).trans (by simp : _ = some (Value.int .i64 q0))
  have c1 := (hb1.cell (p := ⟨w.heap.size, 1, none⟩) (by simp)).trans (by simp : _ = some (Value.int .i64 q1))
  have c2 := (hb1.cell (p := ⟨w.heap.size, 2, none⟩) (by simp)).trans (by simp : _ = some (Value.int .i64 q2))
  have hfin : Below w.heap.size w w1 := below_seq ((Below.refl _ _).alloc (Nat.le_refl _) _) hb1
  clear hb1
  go_wp2_with fail
  refine (short_any s 300 (by omega) _).mono ?_
  rintro e w2 ⟨rfl, rfl⟩
  have hA := shortb_size s 300
  generalize shortb s 300 = A at hA ⊢
  go_wp2_with fail
  refine (short_any t 300 (by omega) _).mono ?_
  rintro e w2 ⟨rfl, rfl⟩
  have hB := shortb_size t 300
  generalize shortb t 300 = B at hB ⊢
  have hAB : A.size + B.size ≤ 9223372036854775807 := by omega
  have hABs : (A ++ B).size ≤ 1000000 := by rw [ByteArray.size_append]; omega
  go_wp2_with fail
  refine (open_any A (by omega) _).mono ?_
  rintro e w3 ⟨rfl, hb3⟩
  generalize hV : openV A = V
  generalize hO : openOk A = O
  have HV := Lib.hid hV
  have HO := Lib.hid hO
  clear hV hO
  go_wp2_with fail
  refine (ropen_any A (by omega) _).mono ?_
  rintro e w4 ⟨rfl, hb4⟩
  rw [HV.out, HO.out]
  clear HV HO c0 c1 c2
  generalize q0 % 4294967296 = x at hX ⊢
  generalize q1 % 4294967296 = y at hY ⊢
  have HX := Lib.hid hX
  have HY := Lib.hid hY
  clear hX hY hr
  go_wp2_with fail
  refine (sum2_at A B _ _ (by omega) (by omega) (by simp) (by simp) (by simp)).mono ?_
  rintro e w5 ⟨rfl, hb5⟩
  generalize hN : wi (crc (A ++ B).data.toList) = N
  have HN := Lib.hid hN
  clear hN
  go_wp2_with fail
  refine (rsum_any (A ++ B) hABs _).mono ?_
  rintro e w6 ⟨rfl, rfl⟩
  rw [HN.out]
  go_wp2_with fail
  refine (ext_any x X HX A (by omega) _).mono ?_
  rintro e w7 ⟨rfl, hb7⟩
  generalize hM : wi (extend X A.data.toList) = M
  have HM := Lib.hid hM
  clear hM
  go_wp2_with fail
  refine (rext_any x X HX A (by omega) _).mono ?_
  rintro e w8 ⟨rfl, rfl⟩
  rw [HM.out]
  go_wp2_with fail
  refine (join_any X Y _ _ _ HX HY (by omega) _).mono ?_
  rintro e w9 ⟨rfl, rfl⟩
  generalize hJ : wi (join X Y r.toNat) = J
  have HJ := Lib.hid hJ
  clear hJ
  go_wp2_with fail
  refine (rjoin_any X Y _ _ _ HX HY (by omega) _).mono ?_
  rintro e w10 ⟨rfl, rfl⟩
  rw [HJ.out]
  go_wp2_with fail
  refine (seal_any A (by omega) _).mono ?_
  rintro e w11 ⟨rfl, hb11⟩
  generalize hS : sealb A = S
  have HS := Lib.hid hS
  clear hS
  go_wp2_with fail
  refine (rseal_any A (by omega) _).mono ?_
  rintro e w12 ⟨rfl, hb12⟩
  rw [HS.out]
  go_wp2_with fail
  go_ret
  refine ⟨rfl, ?_⟩
  have a1 := fun (w : World) (o : Obj) => (Below.refl w.heap.size w).alloc (Nat.le_refl _) o
  exact below_seq hfin (below_seq hb3 (below_seq hb4 (below_seq (a1 _ _) (below_seq hb5 (below_seq hb7 (below_seq hb11 hb12))))))
end Tells
end Go.Proofs.Ytdjdoanlancplaa
