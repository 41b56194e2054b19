/- CrcSeals: the walk of the law. -/
import Derived.Test.YtdjdoanlancplaaOpen
import Derived.Test.YtdjdoanlancplaaLaw
namespace Go.Proofs.Ytdjdoanlancplaa
open Go.RowKit

theorem bytes_ext {a b : ByteArray} (h : a.data.toList = b.data.toList) : a = b := by
  cases a with | mk a => cases b with | mk b =>
  exact congrArg _ (Array.toList_inj.1 h)
theorem size_list (s : ByteArray) : s.data.toList.length = s.size := by simp
theorem extract_list2 (s : ByteArray) (a b : Nat) : (s.extract a b).data.toList = (s.data.toList.take b).drop a := by
  rw [ByteArray.data_extract, Array.toList_extract, List.extract_eq_take_drop, ← List.drop_take]
/-- a sealed text, as lists of bytes -/
theorem openOk_iff (t : ByteArray) : openOk t = true ↔ ∃ l, t.data.toList = l ++ le (crc l) := by
  unfold openOk
  rw [Bool.and_eq_true, decide_eq_true_eq, decide_eq_true_eq]
  have hl := size_list t
  constructor
  · rintro ⟨h4, he⟩
    refine ⟨t.data.toList.take (t.size - 4), ?_⟩
    have := congrArg (fun b : ByteArray => b.data.toList) he
    rw [extract_list2, leb_list, extract_list, ← hl, List.take_length] at this
    rw [← hl, ← this, List.take_append_drop]
  · rintro ⟨l, h⟩
    have hsz : t.size = l.length + 4 := by rw [← hl, h, List.length_append, le_length]
    refine ⟨by omega, ?_⟩
    apply bytes_ext
    have e1 : List.take l.length (l ++ le (crc l)) = l := List.take_left' rfl
    rw [extract_list2, leb_list, extract_list, hsz, show l.length + 4 - 4 = l.length from by omega, h, e1]
    rw [List.take_of_length_le (by rw [List.length_append, le_length]; exact Nat.le_refl _), List.drop_left' rfl]
theorem openV_is (t : ByteArray) (l : List UInt8) (h : t.data.toList = l ++ le (crc l)) : (openV t).data.toList = l := by
  have hok := (openOk_iff t).2 ⟨l, h⟩
  unfold openV
  have hsz : t.size = l.length + 4 := by rw [← size_list t, h, List.length_append, le_length]
  rw [hok, if_pos rfl, extract_list, hsz, show l.length + 4 - 4 = l.length from by omega, h, List.take_left']
  rfl
theorem open_seal (s : ByteArray) : openOk (sealb s) = true ∧ openV (sealb s) = s :=
  ⟨(openOk_iff _).2 ⟨_, sealb_list s⟩, bytes_ext (openV_is _ _ (sealb_list s))⟩
theorem open_less (s : ByteArray) (h : s.size < 4) : openOk s = false := by unfold openOk; simp; omega

namespace Seals

set_option maxHeartbeats 1000000 in
theorem walk (s : ByteArray) (_ : s.size ≤ maxLen) (w : World) :
    Calls Try.prog 4 #[.string s] w fun e w' => e = .returned (.bool true) ∧ Below w.heap.size w w' := by
  go_enter Try.func4, Try.ntmps4
  go_wp2_with fail
  refine (awake_any _).mono ?_
  rintro e w1 ⟨rfl, hb1⟩
  go_wp2_with fail
  refine (short_any s 300 (by omega) _).mono ?_
  rintro e w2 ⟨rfl, rfl⟩
  have hS := shortb_size s 300
  generalize shortb s 300 = S at hS ⊢
  go_wp2_with fail
  refine (seal_any S (by omega) _).mono ?_
  rintro e w3 ⟨rfl, hb3⟩
  have hz := sealb_size S
  have hop := open_seal S
  generalize sealb S = T at hz hop ⊢
  have hop1 := hop.1
  have hop2 := hop.2
  clear hop
  have hT : T.size ≤ 1000000 := by omega
  clear hz
  go_wp2_with fail
  refine (open_any T hT _).mono ?_
  rintro e w4 ⟨rfl, hb4⟩
  rw [hop1, hop2]
  clear hop1 hop2
  go_wp2_with fail
  refine (short_any S 3 (by omega) _).mono ?_
  rintro e w5 ⟨rfl, rfl⟩
  have hS3 := shortb_size S 3
  generalize shortb S 3 = U at hS3 ⊢
  go_wp2_with fail
  refine (open_any U (by omega) _).mono ?_
  rintro e w6 ⟨rfl, hb6⟩
  rw [open_less U (by omega)]
  go_wp2_with fail
  go_ret
  exact ⟨rfl, below_seq hb1 (below_seq hb3 (below_seq hb4 hb6))⟩
end Seals
end Go.Proofs.Ytdjdoanlancplaa
