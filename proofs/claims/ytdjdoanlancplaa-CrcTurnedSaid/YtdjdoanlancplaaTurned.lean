/- CrcTurned: the walk of the law. -/
import Derived.Test.YtdjdoanlancplaaSeals
import Derived.Test.YtdjdoanlancplaaTurnp
import Derived.Laws.IdiomStrings
import Derived.Deep.DrawnRows
namespace Go.Proofs.Ytdjdoanlancplaa
open Go.RowKit
namespace Turned

theorem k_bd (m : Nat) (r : Int) : ∃ k : Nat, (r + ((m : Int) + 4) - 3) % ((m : Int) + 4 - 3) = (k : Int) ∧ k ≤ m := by
  have h1 := Int.emod_nonneg (r + ((m : Int) + 4) - 3) (show (m : Int) + 4 - 3 ≠ 0 by omega)
  have h2 := Int.emod_lt_of_pos (r + ((m : Int) + 4) - 3) (show 0 < (m : Int) + 4 - 3 by omega)
  exact ⟨((r + ((m : Int) + 4) - 3) % ((m : Int) + 4 - 3)).toNat, by omega, by omega⟩
theorem tmod_bd (z : Int) (m : Nat) : -((m : Int) + 1) < z.tmod ((m : Int) + 4 - 3) ∧ z.tmod ((m : Int) + 4 - 3) < (m : Int) + 1 := by
  have h1 := Int.tmod_lt_of_pos z (show 0 < (m : Int) + 4 - 3 by omega)
  have h2 := Int.lt_tmod_of_pos z (show 0 < (m : Int) + 4 - 3 by omega)
  omega

/-- the bytes of the text behind i rounds, as they lie in block g -/
def BytesAt (w : World) (g : Nat) (l y : List UInt8) (k i : Nat) : Prop :=
  ∀ j, j < l.length → w.cell? ⟨g, j, none⟩ = some (.int .u8 ((turnAt l y k i j).toNat : Int)) ∧ w.frozen? ⟨g, j, none⟩ = false
theorem bytes_new (w : World) (T : ByteArray) (n : Nat) (y : List UInt8) (k : Nat) :
    BytesAt (w.alloc (.cells (bytesRow T n) 5 ((bytesRow T n).size, (bytesRow T n).size + 1))).drew w.heap.size T.data.toList y k 0 := by
  intro j hj
  have hjs : j < T.size := by simpa using hj
  have hsz : j < (bytesRow T n).size := by unfold bytesRow; simp; omega
  refine ⟨?_, ?_⟩
  · show (w.alloc _).cell? ⟨w.heap.size, j, none⟩ = _
    rw [World.cell?_alloc_mark, turnAt_zero]
    unfold bytesRow
    rw [Array.getElem?_append_left (by simpa using hjs), Array.getElem?_map]
    have : T.data[j]? = some (T.data.toList.getD j 0) := by
      rw [← Array.getElem?_toList, List.getD_eq_getElem?_getD, List.getElem?_eq_getElem hj]
      rfl
    rw [this]
    rfl
  · show (w.alloc _).frozen? ⟨w.heap.size, j, none⟩ = false
    have hh := heap_alloc_new w (.cells (bytesRow T n) 5 ((bytesRow T n).size, (bytesRow T n).size + 1))
    unfold World.frozen?
    rw [hh]
    simp only [Bool.and_eq_false_iff, decide_eq_false_iff_not]
    left
    omega
theorem u8_xor_val (a b : UInt8) : bits .xor .u8 (a.toNat : Int) (b.toNat : Int) = ((a ^^^ b).toNat : Int) := by
  rw [u8_xor_nat _ _ a.toNat_lt b.toNat_lt, UInt8.toNat_xor]
theorem byte_of {z : Int} (h : (Lit.int .u8 z).wf = true) : ∃ Y : UInt8, z = (Y.toNat : Int) := by
  have h1 : IntKind.u8.min = 0 := rfl
  have h2 : IntKind.u8.max = 255 := rfl
  simp only [Lit.wf, Bool.and_eq_true, decide_eq_true_eq] at h
  refine ⟨UInt8.ofNat z.toNat, ?_⟩
  rw [UInt8.toNat_ofNat']
  omega
theorem bytes_step {w w2 : World} {g : Nat} {l y : List UInt8} {k i : Nat} (h : BytesAt w g l y k i) {v : Int} (hv : v = ((l.getD (k + i) 0 ^^^ y.getD i 0).toNat : Int))
    (hw : (w.setCell ⟨g, k + i, none⟩ (.int .u8 v)).drew = w2) : BytesAt w2 g l y k (i + 1) := by
  subst hw hv
  intro j hj
  obtain ⟨h1, h2⟩ := h j hj
  refine ⟨?_, ?_⟩
  · show (w.setCell _ _).cell? ⟨g, j, none⟩ = _
    by_cases e : j = k + i
    · subst e
      rw [turnAt_done]
      exact World.cell?_setCell_same' _ _ _ (by rw [h1]; rfl)
    · rw [turnAt_other _ _ _ _ _ e, ← h1]
      exact World.cell?_setCell_other _ _ _ _ (fun x => e (by injection x with _ x; exact x.symm))
  · show (w.setCell _ _).frozen? ⟨g, j, none⟩ = false
    simp [h2]

theorem all_step (Y : List UInt8) (i : Nat) {yv : Nat} (h : yv = 0 ↔ Y.getD i 0 = 0) (hi : i < Y.length) : (Y.take (i + 1)).all (· == 0) = ((Y.take i).all (· == 0) && decide (yv = 0)) := by
  rw [List.take_succ_eq_append_getElem hi, List.all_append]
  congr 1
  have e : Y.getD i 0 = Y[i] := by simp [List.getD_eq_getElem?_getD, List.getElem?_eq_getElem hi]
  rw [e] at h
  by_cases hz : Y[i] = 0
  · have hy : yv = 0 := h.2 hz
    simp [hz, hy]
  · have hy : ¬ yv = 0 := fun x => hz (h.1 x)
    simp [hz, hy]
theorem conv_turned {w : World} {g cap n : Nat} {l y : List UInt8} {k : Nat} (h : BytesAt w g l y k 4) (hl : l.length = n) :
    (convert 23 9 (.slice (some ⟨g, 0, none⟩) n cap)).run Try.prog w = .ok (.string ⟨(turnL l y k 4).toArray⟩) w := by
  have h1 := run_convert_bytes_back (P := Try.prog) w 23 9 5 ⟨g, 0, none⟩ cap (turnL l y k 4) Try.underlying23 Try.underlying5 Try.underlying9 (by
    intro j hj
    have e : (⟨g, 0, none⟩ : Addr).add j = ⟨g, j, none⟩ := by
      unfold Addr.add
      by_cases h : j = 0 <;> simp [h]
    rw [e, turnL_get]
    exact (h j (by rw [turnL_length] at hj; exact hj)).1)
  rw [turnL_length, hl] at h1
  exact h1
theorem open_turned (T : ByteArray) (a b c d : UInt8) (k : Nat) (S : ByteArray) (hT : T.data.toList = S.data.toList ++ le (crc S.data.toList)) (hk : k + 4 ≤ T.data.toList.length) :
    openOk ⟨(turnL T.data.toList [a, b, c, d] k 4).toArray⟩ = ([a, b, c, d].take 4).all (· == 0) := by
  rw [Bool.eq_iff_iff, openOk_iff]
  show (∃ l, turnL T.data.toList [a, b, c, d] k 4 = l ++ le (crc l)) ↔ _
  rw [turned_open T.data.toList a b c d k hk ⟨_, hT⟩]
  simp

set_option maxHeartbeats 4000000 in
theorem walk (s : ByteArray) (_ : s.size ≤ maxLen) (at_ : Int) (_ : (Lit.int .i64 at_).wf = true) (y0 y1 y2 y3 : Int) (hy : ∀ z ∈ [y0, y1, y2, y3], (Lit.int .u8 z).wf = true) (w : World) :
    Calls Try.prog 5 #[.string s, .int .i64 at_, .agg #[.int .u8 y0, .int .u8 y1, .int .u8 y2, .int .u8 y3]] w fun e w' => e = .returned (.bool true) ∧ Below w.heap.size w w' := by
  obtain ⟨Y0, rfl⟩ := byte_of (hy y0 (by simp))
  obtain ⟨Y1, rfl⟩ := byte_of (hy y1 (by simp))
  obtain ⟨Y2, rfl⟩ := byte_of (hy y2 (by simp))
  obtain ⟨Y3, rfl⟩ := byte_of (hy y3 (by simp))
  clear hy
  go_enter Try.func5, Try.ntmps5
  go_wp2_with fail
  refine (awake_any _).mono ?_
  rintro e w1 ⟨rfl, hb1⟩
  have c0 := (hb1.cell (p := ⟨w.heap.size, 0, none⟩) (by simp)).trans (by simp : _ = some (Value.int .u8 (Y0.toNat : Int)))
  have c1 := (hb1.cell (p := ⟨w.heap.size, 1, none⟩) (by simp)).trans (by simp : _ = some (Value.int .u8 (Y1.toNat : Int)))
  have c2 := (hb1.cell (p := ⟨w.heap.size, 2, none⟩) (by simp)).trans (by simp : _ = some (Value.int .u8 (Y2.toNat : Int)))
  have c3 := (hb1.cell (p := ⟨w.heap.size, 3, none⟩) (by simp)).trans (by simp : _ = some (Value.int .u8 (Y3.toNat : Int)))
  have hfin : Below w.heap.size w w1 := below_seq ((Below.refl _ _).alloc (Nat.le_refl _) _) hb1
  have hsz1 : w.heap.size < w1.heap.size := by have := hb1.size; simp at this; omega
  clear hb1
  go_wp2_with fail
  refine (short_any s 300 (by omega) _).mono ?_
  rintro e w2 ⟨rfl, rfl⟩
  have hS := shortb_size s 300
  generalize shortb s 300 = S at hS ⊢
  go_wp2_with fail
  refine (seal_any S (by omega) _).mono ?_
  rintro e w3 ⟨rfl, hb3⟩
  have hz := sealb_size S
  have hl := sealb_list S
  have HL := Lib.hid hl
  clear hl
  generalize sealb S = T at hz HL ⊢
  have hconv := run_bytes_of_string (P := Try.prog) w3 9 23 5 T Try.underlying9 Try.underlying23 Try.underlying5
  obtain ⟨r, hr⟩ : ∃ r, at_.tmod ((S.size : Int) + 4 - 3) = r := ⟨_, rfl⟩
  have hr1 := tmod_bd at_ S.size
  rw [hr] at hr1
  go_wp2_with fail
  obtain ⟨k, hk, hkm⟩ := k_bd S.size r
  rw [hk]
  clear hk hr hr1 hconv
  have hB0 := bytes_new w3 T (grownCap w3 (S.size + 4) 0 5) [Y0, Y1, Y2, Y3] k
  have hbW : Below w.heap.size w (w3.alloc (.cells (bytesRow T (grownCap w3 (S.size + 4) 0 5)) 5 ((bytesRow T (grownCap w3 (S.size + 4) 0 5)).size, (bytesRow T (grownCap w3 (S.size + 4) 0 5)).size + 1))).drew :=
    (below_seq (below_seq hfin hb3) ((Below.refl _ _).alloc (Nat.le_refl _) _)).drew
  have hyW : ∀ j, j < 4 → (w3.alloc (.cells (bytesRow T (grownCap w3 (S.size + 4) 0 5)) 5 ((bytesRow T (grownCap w3 (S.size + 4) 0 5)).size, (bytesRow T (grownCap w3 (S.size + 4) 0 5)).size + 1))).drew.cell? ⟨w.heap.size, j, none⟩ = some (.int .u8 (([Y0, Y1, Y2, Y3].getD j 0).toNat : Int)) := by
    have h3 := hb3.size
    intro j hj
    show (w3.alloc _).cell? _ = _
    rw [World.cell?_alloc_lt _ _ _ (by show w.heap.size < w3.heap.size; omega), hb3.cell (by exact hsz1)]
    rcases (show j = 0 ∨ j = 1 ∨ j = 2 ∨ j = 3 from by omega) with rfl | rfl | rfl | rfl
    · exact c0
    · exact c1
    · exact c2
    · exact c3
  have hg : w.heap.size < w3.heap.size := by have := hb3.size; omega
  generalize (w3.alloc (.cells (bytesRow T (grownCap w3 (S.size + 4) 0 5)) 5 ((bytesRow T (grownCap w3 (S.size + 4) 0 5)).size, (bytesRow T (grownCap w3 (S.size + 4) 0 5)).size + 1))).drew = W at hB0 hbW hyW ⊢
  generalize grownCap w3 (S.size + 4) 0 5 = cap
  generalize w3.heap.size = g at hB0 hg ⊢
  clear c0 c1 c2 c3 hb3 hfin hsz1
  go_loopw [10, 11] (fun vs vi wr => ∃ (i : Nat) (b : Bool), i ≤ 4 ∧ vi = .int .i64 (i : Int) ∧ vs = .bool b ∧ Hid (b = ([Y0, Y1, Y2, Y3].take i).all (· == 0)) ∧ Hid (BytesAt wr g T.data.toList [Y0, Y1, Y2, Y3] k i) ∧ Hid (∀ j, j < 4 → wr.cell? ⟨w.heap.size, j, none⟩ = some (.int .u8 (([Y0, Y1, Y2, Y3].getD j 0).toNat : Int))) ∧ Below w.heap.size w wr)
    (fun _ vi _ => (4 - intOf vi).toNat)
  case atStart => exact ⟨0, true, by omega, rfl, rfl, rfl, hB0, hyW, hbW⟩
  case round =>
    obtain ⟨i, b, hi, rfl, rfl, hb, hT, hY, hbl⟩ := hrel
    clear hB0 hyW hbW
    have hlen : T.data.toList.length = S.size + 4 := by rw [size_list, hz]
    have HLen := Lib.hid hlen
    clear hlen
    by_cases h4 : i < 4
    · obtain ⟨ct, hf⟩ := hT.out (k + i) (by rw [HLen.out]; omega)
      rw [turnAt_here] at ct
      have cy := hY.out i h4
      have hval := Lib.hid (u8_xor_val (T.data.toList.getD (k + i) 0) ([Y0, Y1, Y2, Y3].getD i 0))
      have hy0 : ([Y0, Y1, Y2, Y3].getD i 0).toNat < 256 := ([Y0, Y1, Y2, Y3].getD i 0).toNat_lt
      have hz0 : Hid ((([Y0, Y1, Y2, Y3].getD i 0).toNat = 0) ↔ ([Y0, Y1, Y2, Y3].getD i 0) = 0) := by
        constructor
        · intro h; exact UInt8.toNat_inj.1 h
        · intro h; rw [h]; rfl
      generalize (T.data.toList.getD (k + i) 0).toNat = lv at ct hval
      generalize ([Y0, Y1, Y2, Y3].getD i 0).toNat = yv at cy hval hy0 hz0
      have b0 : (0 : Int) ≤ (k : Int) + (i : Int) := by omega
      have b1 : (k : Int) + (i : Int) < (S.size : Int) + 4 := by omega
      have b2 : IntKind.i64.wrap ((k : Int) + (i : Int)) = (k : Int) + (i : Int) := IntWalk.i64_in _ (by omega)
      have b3 : ((k : Int) + (i : Int)).toNat = k + i := by omega
      have b4 : (0 : Int) ≤ (i : Int) := by omega
      have b5 : (i : Int) < 4 := by omega
      go_wp2_with fail
      go_region
      generalize hw2 : (wr.setCell ⟨g, k + i, none⟩ (.int .u8 (bits .xor .u8 (lv : Int) (yv : Int)))).drew = w2
      have hT2 := Lib.hid (bytes_step hT.out hval.out hw2)
      have hY2 : ∀ j, j < 4 → w2.cell? ⟨w.heap.size, j, none⟩ = some (.int .u8 (([Y0, Y1, Y2, Y3].getD j 0).toNat : Int)) := by
        subst hw2
        intro j hj
        show (wr.setCell _ _).cell? _ = _
        rw [World.cell?_setCell_other _ _ _ _ (fun x => by injection x with x _; omega)]
        exact hY.out j hj
      have hbl2 : Below w.heap.size w w2 := by subst hw2; exact (hbl.setCell (by show w.heap.size ≤ g; omega) _).drew
      have cy2 : w2.cell? ⟨w.heap.size, i, none⟩ = some (.int .u8 (yv : Int)) := by
        subst hw2
        show (wr.setCell _ _).cell? _ = _
        rw [World.cell?_setCell_other _ _ _ _ (fun x => by injection x with x _; omega)]
        exact cy
      have HY2 := Lib.hid hY2
      have hall : Hid (([Y0, Y1, Y2, Y3].take (i + 1)).all (· == 0) = (([Y0, Y1, Y2, Y3].take i).all (· == 0) && decide (yv = 0))) := all_step _ _ hz0.out h4
      clear hw2 hY2 ct cy hT hY hbl hval hf
      cases b
      · go_wp2_with fail
        go_roundw
        case rel => exact ⟨i + 1, false, by omega, by go_num, rfl, by rw [hall.out, ← hb.out]; rfl, hT2.out, HY2.out, hbl2⟩
        case measure => simp [intOf]; omega
      · by_cases hy00 : yv = 0
        · have e0 : (((yv : Nat) : Int) == 0) = true := by rw [hy00]; rfl
          have H00 := Lib.hid hy00
          clear hy00
          go_wp2_with fail
          go_roundw
          case rel => exact ⟨i + 1, true, by omega, by go_num, rfl, by rw [hall.out, ← hb.out, H00.out]; rfl, hT2.out, HY2.out, hbl2⟩
          case measure => simp [intOf]; omega
        · have e0 : (((yv : Nat) : Int) == 0) = false := by rw [beq_eq_false_iff_ne]; omega
          have H00 := Lib.hid hy00
          clear hy00
          go_wp2_with fail
          go_roundw
          case rel => exact ⟨i + 1, false, by omega, by go_num, rfl, by rw [hall.out, ← hb.out, decide_eq_false H00.out]; rfl, hT2.out, HY2.out, hbl2⟩
          case measure => simp [intOf]; omega
    · obtain rfl : i = 4 := by omega
      have hcv := conv_turned (cap := cap) hT.out HLen.out
      have hop := open_turned T Y0 Y1 Y2 Y3 k S HL.out (by rw [HLen.out]; omega)
      rw [← hb.out] at hop
      have hsz : (⟨(turnL T.data.toList [Y0, Y1, Y2, Y3] k 4).toArray⟩ : ByteArray).size ≤ 1000000 := by
        show (turnL T.data.toList [Y0, Y1, Y2, Y3] k 4).toArray.size ≤ 1000000
        rw [List.size_toArray, turnL_length, HLen.out]
        omega
      generalize (⟨(turnL T.data.toList [Y0, Y1, Y2, Y3] k 4).toArray⟩ : ByteArray) = F at hcv hop hsz
      have HO := Lib.hid hop
      clear hop hb hT hY
      go_wp2_with fail
      refine (open_any F hsz _).mono ?_
      rintro e w4 ⟨rfl, hb4⟩
      rw [HO.out]
      go_wp2_with fail
      go_ret
      exact ⟨by cases b <;> rfl, below_seq hbl hb4⟩
end Turned
end Go.Proofs.Ytdjdoanlancplaa
