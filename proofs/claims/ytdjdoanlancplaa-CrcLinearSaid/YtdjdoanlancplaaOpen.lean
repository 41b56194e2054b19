/- The contract of Open. -/
import Derived.Test.YtdjdoanlancplaaSeal
import Derived.Deep.RegionHeld3
import Derived.Deep.QuietTactic
import Derived.BigQuiet
import Derived.Lib.Strings
namespace Go.Proofs.Ytdjdoanlancplaa
open Go.RowKit

/-- is a text a sealed one? -/
def openOk (s : ByteArray) : Bool := decide (4 ≤ s.size) && decide (s.extract (s.size - 4) s.size = leb (crc (s.extract 0 (s.size - 4)).data.toList))
def openV (s : ByteArray) : ByteArray := if openOk s then s.extract 0 (s.size - 4) else ⟨#[]⟩

theorem below_drewN {B : Nat} {a w : World} (h : Below B a w) (n : Nat) : Below B a (w.drewN n) := ⟨h.os, h.tape, h.output, h.size, h.block⟩
/-- Sum of one text that lies in a cell -/
theorem sum_at (s : ByteArray) (g : Nat) (W : World) (hs : s.size ≤ 1000000) (hc : W.cell? ⟨g, 0, none⟩ = some (.string s)) (hg : g < W.heap.size) :
    Calls Try.prog 10 #[.slice (some ⟨g, 0, none⟩) 1 1] W fun e w' => e = .returned (.int .u32 (wi (crc s.data.toList))) ∧ Below W.heap.size W w' := by
  have h := sum_any [s] g W (by simp) (by intro i h; simp at h; subst h; exact hs) hg (by
    intro i h
    have : i = 0 := by simpa using h
    subst this
    exact hc)
  refine h.mono ?_
  rintro e w' ⟨rfl, hb⟩
  exact ⟨by simp [cat], hb⟩

set_option maxHeartbeats 1000000 in
theorem open_short (s : ByteArray) (hs : s.size < 4) (w : World) :
    Calls Try.prog 12 #[.string s] w fun e w' => e = .returned (.tuple #[.string ⟨#[]⟩, .bool false]) ∧ Below w.heap.size w w' := by
  have hd : decide ((s.size : Int) - 4 < 0) = true := by simp; omega
  go_enter Try.func12, Try.ntmps12
  go_wp2_with fail
  go_quiet (fail)
  go_wp2
  go_ret2
  exact ⟨rfl, below_drewN (Below.refl _ _) _⟩

theorem toList_beq (a b : ByteArray) : (a.toList == b.toList) = decide (a = b) := by
  rw [Lib.toList_data, Lib.toList_data]
  by_cases h : a = b
  · subst h; simp
  · have hd : a.data ≠ b.data := by
      intro e
      apply h
      cases a with | mk a => cases b with | mk b => exact congrArg _ e
    simp [h, hd]
theorem extract_list (s : ByteArray) (n : Nat) : (s.extract 0 n).data.toList = s.data.toList.take n := by
  rw [ByteArray.data_extract, Array.toList_extract]; simp
theorem open_is (s : ByteArray) (n : Nat) (hn : s.size = n + 4) :
    openOk s = ((s.extract n (n + 4)).toList == (leb (crc (List.take n s.data.toList))).toList) ∧ openV s = if openOk s then s.extract 0 n else ⟨#[]⟩ := by
  refine ⟨?_, ?_⟩
  · unfold openOk
    rw [toList_beq, hn, show n + 4 - 4 = n from by omega, extract_list]
    simp
  · unfold openV
    rw [hn, show n + 4 - 4 = n from by omega]

set_option maxHeartbeats 1000000 in
theorem open_long (s : ByteArray) (n : Nat) (hn : s.size = n + 4) (hs2 : n ≤ 1000000) (w : World) :
    Calls Try.prog 12 #[.string s] w fun e w' => e = .returned (.tuple #[.string (openV s), .bool (openOk s)]) ∧ Below w.heap.size w w' := by
  have hd : decide ((n : Int) < 0) = false := by simp
  have hsz : (s.extract 0 n).size ≤ 1000000 := by rw [ByteArray.size_extract]; omega
  have h0 : (0 : Int) ≤ (n : Int) := by omega
  have h4 : (n : Int) ≤ (n : Int) + 4 := by omega
  have hp : Hid (IsW (wi (crc (s.data.toList.take n))) _) := wi_is _
  go_enter Try.func12, Try.ntmps12
  go_wp2_with fail
  go_region_held3 (fun _ => True) (trivial) (first | (go_at_call 10; refine (sum_at (s.extract 0 n) w.heap.size _ hsz ?_ ?_).mono ?_; (simp); (simp); rintro e w2 ⟨rfl, hb⟩) | (go_at_call 21; refine (bytes_any _ _ hp _).mono ?_; rintro e w3 ⟨rfl, hb3⟩) | fail)
  have hr := open_is s n hn
  generalize ((s.extract n (n + 4)).toList == (leb (crc (List.take n s.data.toList))).toList) = B at hr ⊢
  have HR := Lib.hid hr
  clear hr
  cases B
  all_goals
    go_wp2
    go_ret2
    exact ⟨by rw [HR.out.2, HR.out.1]; rfl, below_seq ((Below.refl _ _).alloc (Nat.le_refl _) _).drew (below_seq hb hb3)⟩

theorem open_any (s : ByteArray) (hs : s.size ≤ 1000000) (w : World) :
    Calls Try.prog 12 #[.string s] w fun e w' => e = .returned (.tuple #[.string (openV s), .bool (openOk s)]) ∧ Below w.heap.size w w' := by
  by_cases h : s.size < 4
  · have h1 : openOk s = false := by unfold openOk; simp; omega
    have h2 : openV s = ⟨#[]⟩ := by unfold openV; rw [h1]; rfl
    rw [h1, h2]
    exact open_short s h w
  · exact open_long s (s.size - 4) (by omega) (by omega) w

end Go.Proofs.Ytdjdoanlancplaa
