/- The contracts of bytes, Seal, short. -/
import Derived.Test.YtdjdoanlancplaaSum
import Derived.Laws.IdiomStrings
namespace Go.Proofs.Ytdjdoanlancplaa
open Go.RowKit

def leb (X : W32) : ByteArray := ⟨(le X).toArray⟩
theorem leb_size (X : W32) : (leb X).size = 4 := rfl
theorem leb_list (X : W32) : (leb X).data.toList = le X := rfl

theorem byte_val (X : W32) (k : Nat) : (((⟨(X >>> k).setWidth 8⟩ : UInt8).toNat : Nat) : Int) = ((X.toNat : Int) / ((2 ^ k : Nat) : Int)) % 256 := by
  show (((X >>> k).setWidth 8).toNat : Int) = _
  rw [BitVec.toNat_setWidth, BitVec.toNat_ushiftRight, Nat.shiftRight_eq_div_pow, Int.natCast_emod, Int.natCast_ediv]
  rfl
theorem le_vals {x : Int} {X : W32} (hx : IsW x X) : ∀ j (hj : j < (le X).length), (#[Value.int .u8 (x % 256), .int .u8 (x / 256 % 256), .int .u8 (x / 65536 % 256), .int .u8 (x / 16777216)] : Array Value)[j]? = some (.int .u8 ((le X)[j].toNat : Int)) := by
  have hb := hx.bd
  unfold IsW at hx
  subst hx
  intro j hj
  have hj4 : j < 4 := hj
  rcases (show j = 0 ∨ j = 1 ∨ j = 2 ∨ j = 3 from by omega) with rfl | rfl | rfl | rfl
  · have := byte_val X 0
    rw [show X >>> 0 = X from by simp] at this
    show some (Value.int .u8 ((X.toNat : Int) % 256)) = some (.int .u8 (((⟨X.setWidth 8⟩ : UInt8).toNat : Nat) : Int))
    rw [this]; simp
  · show some (Value.int .u8 ((X.toNat : Int) / 256 % 256)) = some (.int .u8 (((⟨(X >>> 8).setWidth 8⟩ : UInt8).toNat : Nat) : Int))
    rw [byte_val X 8]; rfl
  · show some (Value.int .u8 ((X.toNat : Int) / 65536 % 256)) = some (.int .u8 (((⟨(X >>> 16).setWidth 8⟩ : UInt8).toNat : Nat) : Int))
    rw [byte_val X 16]; rfl
  · show some (Value.int .u8 ((X.toNat : Int) / 16777216)) = some (.int .u8 (((⟨(X >>> 24).setWidth 8⟩ : UInt8).toNat : Nat) : Int))
    rw [byte_val X 24]
    congr 2
    show (X.toNat : Int) / 16777216 = (X.toNat : Int) / 16777216 % 256
    omega

theorem conv_le {x : Int} {X : W32} (hx : IsW x X) (w : World) :
    (convert 23 9 (.slice (some ⟨w.heap.size, 0, none⟩) 4 4)).run Try.prog (w.alloc (.cells #[.int .u8 (x % 256), .int .u8 (x / 256 % 256), .int .u8 (x / 65536 % 256), .int .u8 (x / 16777216)] 5)) =
      .ok (.string (leb X)) (w.alloc (.cells #[.int .u8 (x % 256), .int .u8 (x / 256 % 256), .int .u8 (x / 65536 % 256), .int .u8 (x / 16777216)] 5)) := by
  refine run_convert_bytes_back (P := Try.prog) _ 23 9 5 ⟨w.heap.size, 0, none⟩ 4 (le X) Try.underlying23 Try.underlying5 Try.underlying9 ?_
  intro j hj
  have e : (⟨w.heap.size, 0, none⟩ : Addr).add j = ⟨w.heap.size, j, none⟩ := by
    unfold Addr.add
    by_cases h : j = 0 <;> simp [h]
  rw [e, cell_of_row _ w.heap.size j _ 5 (0, 0) (heap_alloc_new w _)]
  exact le_vals hx j hj

set_option maxHeartbeats 1000000 in
theorem bytes_any (x : Int) (X : W32) (hx : Hid (IsW x X)) (w : World) :
    Calls Try.prog 21 #[.int .u32 x] w fun e w' => e = .returned (.string (leb X)) ∧ Below w.heap.size w w' := by
  have hb := hx.out.bd
  have hk := conv_le hx.out w
  go_enter Try.func21, Try.ntmps21
  go_wp2
  go_ret
  exact ⟨rfl, (Below.refl _ _).alloc (Nat.le_refl _) _⟩

/-- what is sealed -/
def sealb (s : ByteArray) : ByteArray := s ++ leb (crc s.data.toList)
theorem sealb_size (s : ByteArray) : (sealb s).size = s.size + 4 := by
  unfold sealb; rw [ByteArray.size_append, leb_size]
theorem sealb_list (s : ByteArray) : (sealb s).data.toList = s.data.toList ++ le (crc s.data.toList) := by
  unfold sealb; rw [ByteArray.data_append, Array.toList_append, leb_list]

set_option maxHeartbeats 1000000 in
theorem seal_any (s : ByteArray) (hs : s.size ≤ 1000000) (w : World) :
    Calls Try.prog 13 #[.string s] w fun e w' => e = .returned (.string (sealb s)) ∧ Below w.heap.size w w' := by
  have hl := leb_size (crc s.data.toList)
  have hw := Lib.hid (wi_is (crc s.data.toList))
  unfold sealb
  go_enter Try.func13, Try.ntmps13
  go_wp2_with fail
  refine (sum1 s w hs _ rfl).mono ?_
  rintro e w2 ⟨rfl, hb⟩
  generalize hX : crc s.data.toList = X at hw hl ⊢
  have HX := Lib.hid hX
  clear hX
  generalize wi X = n at hw ⊢
  go_wp2_with fail
  refine (bytes_any n X hw _).mono ?_
  rintro e w3 ⟨rfl, hb3⟩
  generalize hL : leb X = L at hl ⊢
  have HL := Lib.hid hL
  clear hL
  have hsum : s.size + L.size ≤ 9223372036854775807 := by omega
  go_wp2_with fail
  go_ret
  exact ⟨by rw [HX.out, HL.out]; rfl, below_seq hb hb3⟩

/-- a text of at most so many bytes -/
def shortb (s : ByteArray) (n : Nat) : ByteArray := s.extract 0 (min n s.size)
theorem shortb_size (s : ByteArray) (n : Nat) : (shortb s n).size ≤ n := by
  unfold shortb; rw [ByteArray.size_extract]; omega
theorem shortb_size_le (s : ByteArray) (n : Nat) : (shortb s n).size = min n s.size := by
  unfold shortb; rw [ByteArray.size_extract]; omega
theorem shortb_self (s : ByteArray) (n : Nat) (h : s.size ≤ n) : shortb s n = s := by
  unfold shortb
  rw [show min n s.size = s.size from by omega]
  exact ByteArray.extract_zero_size

set_option maxHeartbeats 1000000 in
theorem short_any (s : ByteArray) (n : Nat) (hn : n ≤ 1000) (w : World) :
    Calls Try.prog 11 #[.string s, .int .i64 (n : Int)] w fun e w' => e = .returned (.string (shortb s n)) ∧ w = w' := by
  by_cases h : n < s.size
  · have e : shortb s n = s.extract 0 n := by unfold shortb; rw [show min n s.size = n from by omega]
    rw [e]
    clear e
    go_enter Try.func11, Try.ntmps11
    go_wp2
    go_ret
    exact ⟨rfl, rfl⟩
  · rw [shortb_self s n (by omega)]
    go_enter Try.func11, Try.ntmps11
    go_wp2
    go_ret
    exact ⟨rfl, rfl⟩

end Go.Proofs.Ytdjdoanlancplaa
