/- The contracts of Sum, and the chapter's example. -/
import Derived.Test.YtdjdoanlancplaaExtb
namespace Go.Proofs.Ytdjdoanlancplaa
open Go.RowKit

theorem below_seq {w w1 w2 : World} (h1 : Below w.heap.size w w1) (h2 : Below w1.heap.size w1 w2) : Below w.heap.size w w2 := h1.trans (h2.mono h1.size)
def cat (ss : List ByteArray) : List UInt8 := (ss.map (fun s => s.data.toList)).flatten
theorem crc_snoc (ss : List ByteArray) (k : Nat) (h : k < ss.length) : crc (cat (ss.take (k + 1))) = extend (crc (cat (ss.take k))) ss[k].data.toList := by
  rw [List.take_succ_eq_append_getElem h]
  unfold cat
  rw [List.map_append, List.flatten_append]
  unfold crc
  rw [extend_append]
  simp
theorem crc_cat_nil : crc (cat []) = 0#32 := by decide +kernel

set_option maxHeartbeats 1000000 in
theorem sum_any (ss : List ByteArray) (g : Nat) (w : World) (hn : ss.length ≤ 10) (hs : ∀ i (h : i < ss.length), ss[i].size ≤ 1000000) (hg : g < w.heap.size)
    (hc : Hid (∀ i (h : i < ss.length), w.cell? ⟨g, i, none⟩ = some (.string ss[i]))) :
    Calls Try.prog 10 #[.slice (some ⟨g, 0, none⟩) ss.length ss.length] w fun e w' => e = .returned (.int .u32 (wi (crc (cat ss)))) ∧ Below w.heap.size w w' := by
  have HS := Lib.hid hs
  clear hs
  go_enter Try.func10, Try.ntmps10
  go_wp2
  go_loopw [3, 5, 8] (fun va _ vi wr => ∃ (k : Nat) (n : Int), k ≤ ss.length ∧ vi = .int .i64 (k : Int) ∧ va = .int .u32 n ∧ Hid (IsW n (crc (cat (ss.take k)))) ∧ Below w.heap.size w wr) (fun _ _ vi _ => ss.length - (intOf vi).toNat)
  case atStart => exact ⟨0, 0, by omega, rfl, rfl, by show IsW 0 (crc (cat [])); rw [crc_cat_nil]; rfl, Below.refl _ _⟩
  case round =>
    obtain ⟨k, n, hk, rfl, rfl, hv, hb⟩ := hrel
    by_cases hlt : k < ss.length
    · have hcell : wr.cell? ⟨g, k, none⟩ = some (.string ss[k]) := (hb.cell (by exact hg)).trans (hc.out k hlt)
      have hst := Lib.hid (crc_snoc ss k hlt)
      have hsk := HS.out k hlt
      generalize ss[k] = s at hcell hst hsk
      go_wp2_with fail
      refine (ext_any _ _ hv s hsk _).mono ?_
      rintro e w2 ⟨rfl, hb2⟩
      have hb3 := hb.trans (hb2.mono hb.size)
      clear hcell hb2
      go_wp2_with fail
      go_roundw
      case rel => exact ⟨k + 1, _, by omega, by go_num, rfl, by rw [hst.out]; exact wi_is _, hb3⟩
      case measure => simp [intOf]; omega
    · obtain rfl : k = ss.length := by omega
      have he : Hid (n = wi (crc (cat ss))) := by
        have := hv.out.eq
        rw [List.take_length] at this
        exact this
      go_wp2_with fail
      go_ret
      exact ⟨by rw [← he.out]; rfl, hb⟩

theorem sum_nil (w : World) : Calls Try.prog 10 #[.slice none 0 0] w fun e w' => e = .returned (.int .u32 0) ∧ w = w' := by
  go_enter Try.func10, Try.ntmps10
  go_wp2
  refine wp_loop_rounds 1 ?_; rw [rounds_succ]
  go_wp2
  go_ret
  exact ⟨rfl, rfl⟩

/-- Sum of one, of two, of three texts, the slice just built -/
theorem cells_built {w : World} {ss : List ByteArray} {C : Array Value} (hC : C.toList = ss.map Value.string) (t : TypeId) : ∀ i (h : i < ss.length), (w.alloc (.cells C t)).cell? ⟨w.heap.size, i, none⟩ = some (.string ss[i]) := by
  intro i h
  rw [cell_of_row _ w.heap.size i C t (0, 0) (heap_alloc_new w _)]
  rw [← Array.getElem?_toList, hC, List.getElem?_map, List.getElem?_eq_getElem h]
  rfl
theorem sum1 (s : ByteArray) (w : World) (hs : s.size ≤ 1000000) (W : World) (hW : Hid (W = w.alloc (.cells #[.string s] 9))) :
    Calls Try.prog 10 #[.slice (some ⟨w.heap.size, 0, none⟩) 1 1] W fun e w' => e = .returned (.int .u32 (wi (crc s.data.toList))) ∧ Below w.heap.size w w' := by
  have hWe := hW.out
  subst hWe
  have h := sum_any [s] w.heap.size (w.alloc (.cells #[.string s] 9)) (by simp) (by intro i h; simp at h; subst h; exact hs) (by simp) (cells_built (by rfl) 9)
  refine h.mono ?_
  rintro e w' ⟨rfl, hb⟩
  refine ⟨by simp [cat], below_seq ((Below.refl _ _).alloc (Nat.le_refl _) _) hb⟩
theorem sum2 (s t : ByteArray) (w : World) (hs : s.size ≤ 1000000) (ht : t.size ≤ 1000000) (W : World) (hW : Hid (W = w.alloc (.cells #[.string s, .string t] 9))) :
    Calls Try.prog 10 #[.slice (some ⟨w.heap.size, 0, none⟩) 2 2] W fun e w' => e = .returned (.int .u32 (wi (crc (s.data.toList ++ t.data.toList)))) ∧ Below w.heap.size w w' := by
  have hWe := hW.out
  subst hWe
  have h := sum_any [s, t] w.heap.size (w.alloc (.cells #[.string s, .string t] 9)) (by simp) (by
    intro i h
    match i, h with
    | 0, _ => exact hs
    | 1, _ => exact ht) (by simp) (cells_built (by rfl) 9)
  refine h.mono ?_
  rintro e w' ⟨rfl, hb⟩
  refine ⟨by simp [cat], below_seq ((Below.refl _ _).alloc (Nat.le_refl _) _) hb⟩
theorem sum3 (s t u : ByteArray) (w : World) (hs : s.size ≤ 1000000) (ht : t.size ≤ 1000000) (hu : u.size ≤ 1000000) (W : World) (hW : Hid (W = w.alloc (.cells #[.string s, .string t, .string u] 9))) :
    Calls Try.prog 10 #[.slice (some ⟨w.heap.size, 0, none⟩) 3 3] W fun e w' => e = .returned (.int .u32 (wi (crc (s.data.toList ++ t.data.toList ++ u.data.toList)))) ∧ Below w.heap.size w w' := by
  have hWe := hW.out
  subst hWe
  have h := sum_any [s, t, u] w.heap.size (w.alloc (.cells #[.string s, .string t, .string u] 9)) (by simp) (by
    intro i h
    match i, h with
    | 0, _ => exact hs
    | 1, _ => exact ht
    | 2, _ => exact hu) (by simp) (cells_built (by rfl) 9)
  refine h.mono ?_
  rintro e w' ⟨rfl, hb⟩
  refine ⟨by simp [cat], below_seq ((Below.refl _ _).alloc (Nat.le_refl _) _) hb⟩

theorem crc_example : wi (crc [49, 50, 51, 52, 53, 54, 55, 56, 57]) = 3421780262 := by decide +kernel

set_option maxHeartbeats 1000000 in
theorem awake_any (w : World) : Calls Try.prog 9 #[] w fun e w' => e = .returned (.bool true) ∧ Below w.heap.size w w' := by
  have hx : (wi (crc ((⟨#[49, 50, 51, 52]⟩ : ByteArray).data.toList ++ (⟨#[53, 54, 55, 56, 57]⟩ : ByteArray).data.toList)) == 3421780262) = true := by
    rw [beq_iff_eq]; exact crc_example
  have HX := Lib.hid hx
  clear hx
  go_enter Try.func9, Try.ntmps9
  go_wp2_with fail
  refine (sum2 _ _ w (by decide) (by decide) _ rfl).mono ?_
  rintro e w2 ⟨rfl, hb⟩
  have hx := HX.out
  generalize wi (crc ((⟨#[49, 50, 51, 52]⟩ : ByteArray).data.toList ++ (⟨#[53, 54, 55, 56, 57]⟩ : ByteArray).data.toList)) = n at hx ⊢
  clear HX
  go_wp2_with fail
  go_ret
  exact ⟨rfl, hb⟩

end Go.Proofs.Ytdjdoanlancplaa
