/- The contract of Extend. -/
import Derived.Test.YtdjdoanlancplaaExt
namespace Go.Proofs.Ytdjdoanlancplaa
open Go.RowKit

/-- what half a byte's call leaves of the frame's facts -/
theorem half_world {w wr w2 : World} {g c : Nat} {v u : Value} (ht : TabAt wr g) (hc : wr.cell? ⟨c, 0, none⟩ = some u) (hf : wr.frozen? ⟨c, 0, none⟩ = false) (hb : Below w.heap.size w wr) (hne : g ≠ c) (hge : w.heap.size ≤ c)
    (h : (wr.setCell ⟨c, 0, none⟩ v).drew = w2) : TabAt w2 g ∧ w2.cell? ⟨c, 0, none⟩ = some v ∧ w2.frozen? ⟨c, 0, none⟩ = false ∧ Below w.heap.size w w2 := by
  subst h
  refine ⟨ht.keep hne v, ?_, ?_, (hb.setCell hge _).drew⟩
  · show (wr.setCell ⟨c, 0, none⟩ v).cell? ⟨c, 0, none⟩ = some v
    exact World.cell?_setCell_same' _ _ _ (by rw [hc]; rfl)
  · show (wr.setCell ⟨c, 0, none⟩ v).frozen? ⟨c, 0, none⟩ = false
    simp [hf]

set_option maxHeartbeats 4000000 in
theorem ext_any (x : Int) (X : W32) (hx : Hid (IsW x X)) (s : ByteArray) (hs : s.size ≤ 1000000) (w : World) :
    Calls Try.prog 15 #[.int .u32 x, .string s] w fun e w' => e = .returned (.int .u32 (wi (extend X s.data.toList))) ∧ Below w.heap.size w w' := by
  go_enter Try.func15, Try.ntmps15
  go_wp2_with (go_at_call 24; refine (table_any _).mono ?_; rintro e w' ⟨rfl, rfl⟩)
  have hW := ext_world w #[.int .u32 0, .int .u32 498536548, .int .u32 997073096, .int .u32 651767980, .int .u32 1994146192, .int .u32 1802195444, .int .u32 1303535960, .int .u32 1342533948, .int .u32 3988292384, .int .u32 4027552580, .int .u32 3604390888, .int .u32 3412177804, .int .u32 2607071920, .int .u32 2262029012, .int .u32 2685067896, .int .u32 3183342108] #[.int .u32 0, .int .u32 498536548, .int .u32 997073096, .int .u32 651767980, .int .u32 1994146192, .int .u32 1802195444, .int .u32 1303535960, .int .u32 1342533948, .int .u32 3988292384, .int .u32 4027552580, .int .u32 3604390888, .int .u32 3412177804, .int .u32 2607071920, .int .u32 2262029012, .int .u32 2685067896, .int .u32 3183342108] (fun _ _ _ h => tab_of_block h) (bits .xor .u32 x 4294967295) _ rfl
  generalize Value.agg #[.int .u32 0, .int .u32 498536548, .int .u32 997073096, .int .u32 651767980, .int .u32 1994146192, .int .u32 1802195444, .int .u32 1303535960, .int .u32 1342533948, .int .u32 3988292384, .int .u32 4027552580, .int .u32 3604390888, .int .u32 3412177804, .int .u32 2607071920, .int .u32 2262029012, .int .u32 2685067896, .int .u32 3183342108] = V
  generalize (((w.alloc (.cells #[.int .u32 0, .int .u32 498536548, .int .u32 997073096, .int .u32 651767980, .int .u32 1994146192, .int .u32 1802195444, .int .u32 1303535960, .int .u32 1342533948, .int .u32 3988292384, .int .u32 4027552580, .int .u32 3604390888, .int .u32 3412177804, .int .u32 2607071920, .int .u32 2262029012, .int .u32 2685067896, .int .u32 3183342108] 46)).alloc (.cells #[.int .u32 0, .int .u32 498536548, .int .u32 997073096, .int .u32 651767980, .int .u32 1994146192, .int .u32 1802195444, .int .u32 1303535960, .int .u32 1342533948, .int .u32 3988292384, .int .u32 4027552580, .int .u32 3604390888, .int .u32 3412177804, .int .u32 2607071920, .int .u32 2262029012, .int .u32 2685067896, .int .u32 3183342108] 46)).alloc (.cells #[.int .u32 (bits .xor .u32 x 4294967295)] 24)) = W at hW ⊢
  have hr0 := hx.out.xor IsW.all
  generalize bits .xor .u32 x 4294967295 = r0 at hW hr0 ⊢
  obtain ⟨hT, hC, hF, hB, hS⟩ := hW
  go_loopw [8, 15] (fun _ vi wr => ∃ (k : Nat) (r : Int), k ≤ s.size ∧ vi = .int .i64 (k : Int) ∧ Hid (IsW r (proc (X ^^^ all1) (s.data.toList.take k))) ∧ Hid (TabAt wr (w.heap.size + 1)) ∧ wr.cell? ⟨w.heap.size + 1 + 1, 0, none⟩ = some (.int .u32 r) ∧ wr.frozen? ⟨w.heap.size + 1 + 1, 0, none⟩ = false ∧ Below w.heap.size w wr)
    (fun _ vi _ => s.size - (intOf vi).toNat)
  case atStart => exact ⟨0, r0, by omega, rfl, hr0, hT, hC, hF, hB⟩
  case round =>
    obtain ⟨k, r, hk, rfl, hr, ht, hc, hf, hb⟩ := hrel
    clear hT hC hF hB hr0
    by_cases hlt : k < s.size
    · have hb1 : Hid (IsW (s[k].toNat : Int) (ext s[k])) := IsW.byte s[k]
      have hb2' : Hid (IsW ((s[k].toNat : Int) / 16) (ext s[k] >>> 4)) := (IsW.byte s[k]).shr 4 16 (by decide)
      have hst := Lib.hid (ext_step (X ^^^ all1) s k hlt)
      have hlt8 : (s[k].toNat : Int) < 256 := by have := s[k].toNat_lt; omega
      go_wp2_with fail
      refine (half_any _ _ _ _ hr hb1 _ _ _ ht hc hf).mono ?_
      rintro e w2 ⟨rfl, hw2⟩
      obtain ⟨ht2, hc2, hf2, hb2⟩ := half_world ht.out hc hf hb (by omega) (by omega) hw2
      have hr2 : Hid (IsW _ _) := wi_is (sN 4 (proc (X ^^^ all1) (s.data.toList.take k) ^^^ (ext s[k] &&& 15#32)))
      generalize sN 4 (proc (X ^^^ all1) (s.data.toList.take k) ^^^ (ext s[k] &&& 15#32)) = X2 at hc2 hr2 hst
      have ht2' := Lib.hid ht2
      clear hw2 ht2
      go_wp2_with fail
      refine (half_any _ _ _ _ hr2 hb2' _ _ _ ht2' hc2 hf2).mono ?_
      rintro e w3 ⟨rfl, hw3⟩
      obtain ⟨ht3, hc3, hf3, hb3⟩ := half_world ht2'.out hc2 hf2 hb2 (by omega) (by omega) hw3
      have hr3 : Hid (IsW _ _) := wi_is (sN 4 (X2 ^^^ ((ext s[k] >>> 4) &&& 15#32)))
      generalize sN 4 (X2 ^^^ ((ext s[k] >>> 4) &&& 15#32)) = X3 at hc3 hr3 hst
      have ht3' := Lib.hid ht3
      clear hw3 ht3 hc hf hb hc2 hf2 hb2
      go_wp2_with fail
      go_roundw
      case rel => exact ⟨k + 1, wi X3, by omega, by go_num, by rw [← hst.out]; exact hr3.out, ht3'.out, hc3, hf3, hb3⟩
      case measure => simp [intOf]; omega
    · obtain rfl : k = s.size := by omega
      have hfull : s.data.toList.take s.size = s.data.toList := List.take_of_length_le (by simp)
      have he := Lib.hid (ext_end X s (by rw [← hfull]; exact hr.out))
      clear hfull
      go_wp2_with fail
      go_ret
      exact ⟨by rw [← he.out]; rfl, hb⟩
end Go.Proofs.Ytdjdoanlancplaa
