/- CrcParts: the walk of the law. -/
import Derived.Test.YtdjdoanlancplaaSeals
import Derived.Test.YtdjdoanlancplaaTimes
namespace Go.Proofs.Ytdjdoanlancplaa
open Go.RowKit
namespace Parts

theorem list_append (a b : ByteArray) : (a ++ b).data.toList = a.data.toList ++ b.data.toList := by
  rw [ByteArray.data_append, Array.toList_append]
/-- Sum of three texts of which the middle one is empty, the slice where it lies -/
theorem sum3_at (s t u : ByteArray) (g : Nat) (W : World) (hs : s.size ≤ 1000000) (ht : t.size ≤ 1000000) (hu : u.size ≤ 1000000)
    (h0 : W.cell? ⟨g, 0, none⟩ = some (.string s)) (h1 : W.cell? ⟨g, 1, none⟩ = some (.string t)) (h2 : W.cell? ⟨g, 2, none⟩ = some (.string u)) (hg : g < W.heap.size) :
    Calls Try.prog 10 #[.slice (some ⟨g, 0, none⟩) 3 3] W fun e w' => e = .returned (.int .u32 (wi (crc (s.data.toList ++ t.data.toList ++ u.data.toList)))) ∧ Below W.heap.size W w' := by
  have h := sum_any [s, t, u] g W (by simp) (by
    intro i h
    match i, h with
    | 0, _ => exact hs
    | 1, _ => exact ht
    | 2, _ => exact hu) hg (by
    intro i h
    match i, h with
    | 0, _ => exact h0
    | 1, _ => exact h1
    | 2, _ => exact h2)
  refine h.mono ?_
  rintro e w' ⟨rfl, hb⟩
  exact ⟨by simp [cat], hb⟩

set_option maxHeartbeats 2000000 in
theorem walk (s : ByteArray) (_ : s.size ≤ maxLen) (t : ByteArray) (_ : t.size ≤ maxLen) (w : World) :
    Calls Try.prog 6 #[.string s, .string t] w fun e w' => e = .returned (.bool true) ∧ Below w.heap.size w w' := by
  go_enter Try.func6, Try.ntmps6
  go_wp2_with fail
  refine (awake_any _).mono ?_
  rintro e w1 ⟨rfl, hb1⟩
  go_wp2_with fail
  refine (short_any s 300 (by omega) _).mono ?_
  rintro e w2 ⟨rfl, rfl⟩
  have hA := shortb_size s 300
  generalize shortb s 300 = A at hA ⊢
  go_wp2_with fail
  refine (short_any t 300 (by omega) _).mono ?_
  rintro e w2 ⟨rfl, rfl⟩
  have hB := shortb_size t 300
  generalize shortb t 300 = B at hB ⊢
  have hAB : A.size + B.size ≤ 9223372036854775807 := by omega
  have hABs : (A ++ B).size ≤ 1000000 := by rw [ByteArray.size_append]; omega
  have f0 := crc_cat_nil
  have f1 := join_crc A.data.toList B.data.toList
  have f2 := extend_append 0#32 A.data.toList B.data.toList
  have f3 := list_append A B
  have hlen : B.data.toList.length = B.size := size_list B
  have F1 := Lib.hid f1
  have F2 := Lib.hid f2
  have F3 := Lib.hid f3
  have FL := Lib.hid hlen
  clear f0 f1 f2 f3 hlen
  go_wp2_with fail
  refine (sum_at (A ++ B) _ _ hABs (by simp) (by simp)).mono ?_
  rintro e w3 ⟨rfl, hb3⟩
  generalize hN : wi (crc (A ++ B).data.toList) = N
  have HN := Lib.hid hN
  clear hN
  go_wp2_with fail
  refine (sum_at A _ _ (by omega) (by simp) (by simp)).mono ?_
  rintro e w4 ⟨rfl, hb4⟩
  have ia : Hid (IsW (wi (crc A.data.toList)) (crc A.data.toList)) := wi_is _
  generalize wi (crc A.data.toList) = na at ia ⊢
  go_wp2_with fail
  refine (sum_at B _ _ (by omega) (by simp) (by simp)).mono ?_
  rintro e w5 ⟨rfl, hb5⟩
  have ib : Hid (IsW (wi (crc B.data.toList)) (crc B.data.toList)) := wi_is _
  generalize wi (crc B.data.toList) = nb at ib ⊢
  go_wp2_with fail
  refine (join_any _ _ _ _ _ ia ib (by omega) _).mono ?_
  rintro e w6 ⟨rfl, rfl⟩
  have hj : wi (join (crc A.data.toList) (crc B.data.toList) ((B.size : Int)).toNat) = N := by
    rw [← HN.out, F3.out, ← F1.out, FL.out, Int.toNat_natCast]
  rw [hj]
  clear hj
  go_wp2_with fail
  refine (sum_at A _ _ (by omega) (by simp) (by simp)).mono ?_
  rintro e w7 ⟨rfl, hb7⟩
  have ia2 : Hid (IsW (wi (crc A.data.toList)) (crc A.data.toList)) := wi_is _
  generalize wi (crc A.data.toList) = na2 at ia2 ⊢
  go_wp2_with fail
  refine (ext_any _ _ ia2 B (by omega) _).mono ?_
  rintro e w8 ⟨rfl, hb8⟩
  have hx : wi (extend (crc A.data.toList) B.data.toList) = N := by
    rw [← HN.out, F3.out]
    unfold crc
    rw [F2.out]
  rw [hx]
  clear hx
  go_wp2_with fail
  refine (sum3_at A ⟨#[]⟩ B _ _ (by omega) (by decide) (by omega) (by simp) (by simp) (by simp) (by simp)).mono ?_
  rintro e w9 ⟨rfl, hb9⟩
  have hx : wi (crc (A.data.toList ++ (⟨#[]⟩ : ByteArray).data.toList ++ B.data.toList)) = N := by
    rw [← HN.out, F3.out]
    simp
  rw [hx]
  clear hx
  go_wp2_with fail
  refine (sum_nil _).mono ?_
  rintro e w10 ⟨rfl, rfl⟩
  go_wp2_with fail
  go_ret
  refine ⟨rfl, ?_⟩
  have a1 := fun (w : World) (o : Obj) => (Below.refl w.heap.size w).alloc (Nat.le_refl _) o
  exact below_seq hb1 (below_seq (a1 _ _) (below_seq hb3 (below_seq (a1 _ _) (below_seq hb4 (below_seq (a1 _ _) (below_seq hb5 (below_seq (a1 _ _) (below_seq hb7 (below_seq hb8 (below_seq (a1 _ _) hb9))))))))))
end Parts
end Go.Proofs.Ytdjdoanlancplaa
