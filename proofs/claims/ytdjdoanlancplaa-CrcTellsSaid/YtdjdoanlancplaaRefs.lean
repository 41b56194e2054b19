/- The contracts of the document's answer for the layer crc. -/
import Derived.Test.YtdjdoanlancplaaSeals
import Derived.Test.YtdjdoanlancplaaTimes
namespace Go.Proofs.Ytdjdoanlancplaa
open Go.RowKit

theorem low_is {b : Int} {B : W32} (hb : IsW b B) : ((bits .and .u32 b 1 == 1) = true ∧ B.getLsbD 0 = true) ∨ ((bits .and .u32 b 1 == 1) = false ∧ B.getLsbD 0 = false) := by
  rw [hb.low]
  cases B.getLsbD 0
  · right; exact ⟨rfl, rfl⟩
  · left; exact ⟨rfl, rfl⟩
theorem s1_val {b : Int} {B : W32} (hb : IsW b B) : (B.getLsbD 0 = true → IsW (bits .xor .u32 (b / 2) 3988292384) (s1 B)) ∧ (B.getLsbD 0 = false → IsW (b / 2) (s1 B)) := by
  have h := hb.shr 1 2 (by decide)
  refine ⟨fun e => ?_, fun e => ?_⟩
  · unfold s1; rw [e]; exact h.xor IsW.poly
  · unfold s1; rw [e]; simpa using h

set_option maxHeartbeats 2000000 in
theorem rin_any (r c : Int) (R C : W32) (hr : Hid (IsW r R)) (hc : Hid (IsW c C)) (h0 : 0 ≤ c) (h1 : c < 256) (w : World) :
    Calls Try.prog 26 #[.int .u32 r, .int .u8 c] w fun e w' => e = .returned (.int .u32 (wi (sN 8 (R ^^^ C)))) ∧ w = w' := by
  have hx := hr.out.xor hc.out
  go_enter Try.func26, Try.ntmps26
  go_wp2
  generalize bits .xor .u32 r c = x0 at hx ⊢
  go_loop [0, 5, 6] (fun vr vi _ => ∃ (k : Nat) (b : Int), k ≤ 8 ∧ Hid (IsW b (sN k (R ^^^ C))) ∧ vr = .int .u32 b ∧ vi = .int .i64 (k : Int)) (fun _ vi _ => (8 - intOf vi).toNat)
  case atStart => exact ⟨0, x0, by omega, hx, rfl, rfl⟩
  case round =>
    obtain ⟨k, b, hk, H, rfl, rfl⟩ := hrel
    have hbd := H.out.bd
    clear hx
    by_cases h8 : k < 8
    · have hv := s1_val H.out
      rw [← sN_succ] at hv
      have HV := Lib.hid hv
      clear hv
      rcases low_is H.out with ⟨hl, hB⟩ | ⟨hl, hB⟩
      · have HN : Hid (IsW (bits .xor .u32 (b / 2) 3988292384) (sN (k + 1) (R ^^^ C))) := HV.out.1 hB
        clear hB
        go_wp2
        go_round
        case rel => exact ⟨k + 1, _, by omega, HN.out, rfl, by go_num⟩
        case measure => simp [intOf]; omega
      · have HN : Hid (IsW (b / 2) (sN (k + 1) (R ^^^ C))) := HV.out.2 hB
        clear hB
        go_wp2
        go_round
        case rel => exact ⟨k + 1, _, by omega, HN.out, rfl, by go_num⟩
        case measure => simp [intOf]; omega
    · obtain rfl : k = 8 := by omega
      have he : Hid (b = wi (sN 8 (R ^^^ C))) := H.out.eq
      go_wp2
      go_ret
      exact ⟨by rw [← he.out]; rfl, rfl⟩

theorem rext_step (X : W32) (s : ByteArray) (k : Nat) (h : k < s.size) : sN 8 (proc X (s.data.toList.take k) ^^^ ext s[k]) = proc X (s.data.toList.take (k + 1)) := by
  rw [take_snoc s k h, proc_append, proc_cons, proc_nil]; rfl

set_option maxHeartbeats 2000000 in
theorem rext_any (x : Int) (X : W32) (hx : Hid (IsW x X)) (s : ByteArray) (hs : s.size ≤ 1000000) (w : World) :
    Calls Try.prog 18 #[.int .u32 x, .string s] w fun e w' => e = .returned (.int .u32 (wi (extend X s.data.toList))) ∧ w = w' := by
  have hr0 := hx.out.xor IsW.all
  go_enter Try.func18, Try.ntmps18
  go_wp2
  generalize bits .xor .u32 x 4294967295 = r0 at hr0 ⊢
  go_loop [5, 6] (fun vr vi => ∃ (k : Nat) (r : Int), k ≤ s.size ∧ vi = .int .i64 (k : Int) ∧ vr = .int .u32 r ∧ Hid (IsW r (proc (X ^^^ all1) (s.data.toList.take k)))) (fun _ vi => s.size - (intOf vi).toNat)
  case atStart => exact ⟨0, r0, by omega, rfl, rfl, hr0⟩
  case round =>
    obtain ⟨k, r, hk, rfl, rfl, hr⟩ := hrel
    clear hr0
    by_cases hlt : k < s.size
    · have hc : Hid (IsW (s[k].toNat : Int) (ext s[k])) := IsW.byte s[k]
      have hst := Lib.hid (rext_step (X ^^^ all1) s k hlt)
      have hlt8 : (s[k].toNat : Int) < 256 := by have := s[k].toNat_lt; omega
      go_wp2_with fail
      refine (rin_any _ _ _ _ hr hc (by omega) (by omega) _).mono ?_
      rintro e w2 ⟨rfl, rfl⟩
      rw [hst.out]
      have hr2 : Hid (IsW (wi (proc (X ^^^ all1) (s.data.toList.take (k + 1)))) (proc (X ^^^ all1) (s.data.toList.take (k + 1)))) := wi_is _
      generalize wi (proc (X ^^^ all1) (s.data.toList.take (k + 1))) = r2 at hr2 ⊢
      go_wp2_with fail
      go_round
      case rel => exact ⟨k + 1, r2, by omega, by go_num, rfl, hr2.out⟩
      case measure => simp [intOf]; omega
    · obtain rfl : k = s.size := by omega
      have hfull : s.data.toList.take s.size = s.data.toList := List.take_of_length_le (by simp)
      have he := Lib.hid (ext_end X s (by rw [← hfull]; exact hr.out))
      clear hfull
      go_wp2_with fail
      go_ret
      exact ⟨by rw [← he.out]; rfl, rfl⟩

theorem rsum_any (s : ByteArray) (hs : s.size ≤ 1000000) (w : World) :
    Calls Try.prog 17 #[.string s] w fun e w' => e = .returned (.int .u32 (wi (crc s.data.toList))) ∧ w = w' := by
  go_enter Try.func17, Try.ntmps17
  go_wp2_with fail
  refine (rext_any 0 0#32 IsW.lit0 s hs _).mono ?_
  rintro e w2 ⟨rfl, rfl⟩
  have h : wi (extend 0#32 s.data.toList) = wi (crc s.data.toList) := rfl
  rw [h]
  clear h
  generalize hn : wi (crc s.data.toList) = n
  have HN := Lib.hid hn
  clear hn
  go_wp2_with fail
  go_ret
  exact ⟨by rw [HN.out]; rfl, rfl⟩

set_option maxHeartbeats 2000000 in
theorem rjoin_any (A B : W32) (a b n : Int) (ha : Hid (IsW a A)) (hb : Hid (IsW b B)) (hn : n ≤ 1000000) (w : World) :
    Calls Try.prog 19 #[.int .u32 a, .int .u32 b, .int .i64 n] w fun e w' => e = .returned (.int .u32 (wi (join A B n.toNat))) ∧ w = w' := by
  go_enter Try.func19, Try.ntmps19
  go_wp2
  go_loop [0, 7] (fun va vi => ∃ (k : Nat) (x : Int), (k : Int) ≤ max n 0 ∧ vi = .int .i64 (k : Int) ∧ va = .int .u32 x ∧ Hid (IsW x (sN (8 * k) A))) (fun _ vi => (n - intOf vi).toNat)
  case atStart => exact ⟨0, a, by omega, rfl, rfl, ha.out⟩
  case round =>
    obtain ⟨k, x, hk, rfl, rfl, hx⟩ := hrel
    have hkm : (k : Int) ≤ 1000000 := by omega
    have HK := Lib.hid hk
    clear hk
    by_cases hlt : (k : Int) < n
    · have hst : Hid (sN 8 (sN (8 * k) A ^^^ 0#32) = sN (8 * (k + 1)) A) := by
        show _ = _
        rw [BitVec.xor_zero, ← sN_add]; congr 1
      go_wp2_with fail
      refine (rin_any _ _ _ 0#32 hx IsW.lit0 (by omega) (by omega) _).mono ?_
      rintro e w2 ⟨rfl, rfl⟩
      rw [hst.out]
      have hr2 : Hid (IsW (wi (sN (8 * (k + 1)) A)) (sN (8 * (k + 1)) A)) := wi_is _
      generalize wi (sN (8 * (k + 1)) A) = r2 at hr2 ⊢
      go_wp2_with fail
      go_round
      case rel => exact ⟨k + 1, r2, by omega, by go_num, rfl, hr2.out⟩
      case measure => simp [intOf]; omega
    · have hkn : k = n.toNat := by have := HK.out; omega
      have he : bits .xor .u32 x b = wi (join A B n.toNat) := by rw [(hx.out.xor hb.out).eq, hkn]; rfl
      have HE := Lib.hid he
      clear he hkn
      go_wp2_with fail
      go_ret
      exact ⟨by rw [← HE.out]; rfl, rfl⟩

set_option maxHeartbeats 2000000 in
theorem rseal_any (s : ByteArray) (hs : s.size ≤ 1000000) (w : World) :
    Calls Try.prog 20 #[.string s] w fun e w' => e = .returned (.string (sealb s)) ∧ Below w.heap.size w w' := by
  have hl := leb_size (crc s.data.toList)
  unfold sealb
  go_enter Try.func20, Try.ntmps20
  go_wp2_with fail
  refine (rsum_any s hs _).mono ?_
  rintro e w2 ⟨rfl, rfl⟩
  have hx := wi_is (crc s.data.toList)
  generalize hX : crc s.data.toList = X at hx hl ⊢
  have HX := Lib.hid hX
  clear hX
  generalize wi X = n at hx ⊢
  have hk := conv_le hx w
  have hb := hx.bd
  have hsum : s.size + (leb X).size ≤ 9223372036854775807 := by omega
  generalize hL : leb X = L at hk hsum
  have HL := Lib.hid hL
  clear hL hl hx
  go_wp2_with fail
  go_ret
  exact ⟨by rw [HX.out, HL.out]; rfl, (Below.refl _ _).alloc (Nat.le_refl _) _⟩

theorem ropen_is (s : ByteArray) (n : Nat) (hn : s.size = n + 4) : ((sealb (s.extract 0 n)).toList == s.toList) = openOk s := by
  rw [toList_beq]
  rw [Bool.eq_iff_iff, decide_eq_true_eq, openOk_iff]
  have hl := size_list s
  constructor
  · intro h
    refine ⟨(s.extract 0 n).data.toList, ?_⟩
    rw [← sealb_list, h]
  · rintro ⟨l, h⟩
    have hln : l.length = n := by
      have := congrArg List.length h
      rw [List.length_append, le_length, hl] at this
      omega
    have he : (s.extract 0 n).data.toList = l := by rw [extract_list, h, ← hln, List.take_left' rfl]
    apply bytes_ext
    rw [sealb_list, he, h]

set_option maxHeartbeats 2000000 in
theorem ropen_any (s : ByteArray) (hs : s.size ≤ 1000000) (w : World) :
    Calls Try.prog 16 #[.string s] w fun e w' => e = .returned (.tuple #[.string (openV s), .bool (openOk s)]) ∧ Below w.heap.size w w' := by
  by_cases h : s.size < 4
  · have h1 : openOk s = false := open_less s h
    have h2 : openV s = ⟨#[]⟩ := by unfold openV; rw [h1]; rfl
    rw [h1, h2]
    clear h1 h2
    go_enter Try.func16, Try.ntmps16
    go_wp2_with fail
    go_ret2
    exact ⟨rfl, Below.refl _ _⟩
  · obtain ⟨n, hn⟩ : ∃ n, s.size = n + 4 := ⟨s.size - 4, by omega⟩
    have hsz : (s.extract 0 n).size ≤ 1000000 := by rw [ByteArray.size_extract]; omega
    have h4 : (n : Int) ≤ (n : Int) + 4 := by omega
    have hr := ropen_is s n hn
    have hv := (open_is s n hn).2
    have HV := Lib.hid hv
    clear hv
    go_enter Try.func16, Try.ntmps16
    go_wp2_with fail
    refine (rseal_any (s.extract 0 n) hsz _).mono ?_
    rintro e w2 ⟨rfl, hb⟩
    generalize sealb (s.extract 0 n) = T at hr ⊢
    generalize hB : openOk s = B at hr
    have HB := Lib.hid hB
    clear hB
    cases B
    all_goals
      go_wp2_with fail
      go_ret2
      exact ⟨by rw [HV.out, HB.out]; rfl, hb⟩
end Go.Proofs.Ytdjdoanlancplaa
