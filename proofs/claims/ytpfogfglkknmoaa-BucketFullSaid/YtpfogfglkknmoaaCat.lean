/- slices.Concat of rows. -/
import Derived.Test.YtpfogfglkknmoaaSweep
import Derived.Lib.AppendZerosOnto
import Derived.Laws.AppendOwnNone
namespace Go.Proofs.Ytpfogfglkknmoaa
open Go.RowKit

theorem zeroCells_size (n : Nat) : (Builtin.zeroCells (.agg #[.string ⟨#[]⟩, .int .i64 0, .int .i64 0] : Value).cells n).size = n * 3 := by
  have := zeros54 n
  simpa using this

set_option maxHeartbeats 2000000 in
theorem grow_any (n : Nat) (h0 : 0 < n) (hn : n ≤ 2000) (w : World) :
    Calls Try.prog 39 #[.slice none 0 0, .int .i64 (n : Int)] w fun e w' => ∃ v', e = .returned v' ∧ Below w.heap.size w w' ∧ w'.ownsRow w.heap.size 54 3 v' 0 [] := by
  obtain ⟨i0, hi, hz0, hz1, hz2⟩ := info_parts info54
  have hG := grownCap_ge w (0 + n) 0 54
  have hM := grownCap_le_maxLen w (0 + n) 0 54 (by unfold maxLen; omega)
  have hrz : ∀ ty, (Builtin.append_ #[25, 3] ty #[.slice none 0 0, .int .i64 (n : Int)]).run Try.prog w =
      .ok (.slice (some ⟨w.heap.size, 0, none⟩) (0 + n) (grownCap w (0 + n) 0 54)) (w.drew.alloc (.cells (([] : List Value).toArray ++ Builtin.zeroCells (.agg #[.string ⟨#[]⟩, .int .i64 0, .int .i64 0] : Value).cells n ++ Builtin.zeroCells (.agg #[.string ⟨#[]⟩, .int .i64 0, .int .i64 0] : Value).cells (grownCap w (0 + n) 0 54 - (0 + n))) 54)) :=
    fun ty => Lib.run_append_grow_zeros w 25 3 ty 54 i0 _ .i64 .i64 Try.underlying25 Try.underlying3 hi hz0 none 0 0 [] (run_firstCells_none w.drew i0.size 0 0 0) n h0 (by omega) (by omega) (by omega) (by rw [hz2]; omega) (growslice_fits (by omega) (by rw [hz2]; omega))
  have hsz : (([] : List Value).toArray ++ Builtin.zeroCells (.agg #[.string ⟨#[]⟩, .int .i64 0, .int .i64 0] : Value).cells n ++ Builtin.zeroCells (.agg #[.string ⟨#[]⟩, .int .i64 0, .int .i64 0] : Value).cells (grownCap w (0 + n) 0 54 - (0 + n))).size = grownCap w (0 + n) 0 54 * 3 := by
    rw [Array.size_append, Array.size_append, zeroCells_size, zeroCells_size]
    simp only [List.size_toArray, List.length_nil]
    omega
  generalize (([] : List Value).toArray ++ Builtin.zeroCells (.agg #[.string ⟨#[]⟩, .int .i64 0, .int .i64 0] : Value).cells n ++ Builtin.zeroCells (.agg #[.string ⟨#[]⟩, .int .i64 0, .int .i64 0] : Value).cells (grownCap w (0 + n) 0 54 - (0 + n))) = cs at hrz hsz
  generalize grownCap w (0 + n) 0 54 = G at hrz hG hM hsz
  rw [Nat.zero_add] at hrz hG
  have hM' : G ≤ 9223372036854775807 := by unfold maxLen at hM; omega
  have hown : (w.drew.alloc (.cells cs 54)).ownsRow w.heap.size 54 3 (.slice (some ⟨w.heap.size, 0, none⟩) 0 G) 0 [] :=
    ⟨by simp, .inr ⟨w.heap.size, G, cs, rfl, Nat.le_refl _, heap_alloc_new w.drew _, Nat.zero_le _, hM, hsz, by simp⟩⟩
  have HO := Lib.hid hown
  clear hown hsz hM
  go_enter Try.func39, Try.ntmps39
  go_wp2_with (at_builtin; refine Lib.wpList_append_run _ rfl _ _ _ _ rfl _ _ rfl rfl _ _ (hrz _) ?_)
  go_ret
  exact ⟨_, rfl, ((Below.refl _ _).drew).alloc (Nat.le_refl _) _, HO.out⟩

/-- the rows to be put together -/
def Parts (w : World) (h : Nat) (ps : List (List Bk)) : Prop :=
  ∀ k (hk : k < ps.length), ∃ v, w.cell? ⟨h, k, none⟩ = some v ∧ Sl v (ps[k]'hk) w
theorem Parts.below {w w' : World} {h : Nat} {ps : List (List Bk)} (hp : Parts w h ps) (hh : h < w.heap.size) (hb : Below w.heap.size w w') : Parts w' h ps := by
  intro k hk
  obtain ⟨v, h1, h2⟩ := hp k hk
  exact ⟨v, (hb.cell (by exact hh)).trans h1, h2.below hb⟩
theorem flat_succ {ps : List (List Bk)} {k : Nat} (hk : k < ps.length) : (ps.take (k + 1)).flatten = (ps.take k).flatten ++ ps[k]'hk := by
  rw [List.take_succ_eq_append_getElem hk, List.flatten_append]
  simp
def sz (ps : List (List Bk)) (k : Nat) : Nat := (ps.take k).flatten.length
theorem flat_le (ps : List (List Bk)) (k : Nat) : (ps.take k).flatten.length ≤ ps.flatten.length := by
  have h : (ps.take k ++ ps.drop k).flatten = ps.flatten := by rw [List.take_append_drop]
  rw [← h, List.flatten_append, List.length_append]
  omega

theorem sz_zero (ps : List (List Bk)) : sz ps 0 = 0 := rfl
theorem sz_succ {ps : List (List Bk)} {k : Nat} (hk : k < ps.length) : sz ps (k + 1) = sz ps k + (ps[k]'hk).length := by unfold sz; rw [flat_succ hk, List.length_append]
theorem sz_all (ps : List (List Bk)) : sz ps ps.length = ps.flatten.length := by unfold sz; rw [List.take_length]

set_option maxHeartbeats 1000000 in
theorem concat_any (ps : List (List Bk)) (hlen : ps.flatten.length ≤ 1000) (h0 : 0 < ps.flatten.length) (hps : ps.length ≤ 10) (h c : Nat) (w : World) (hh : h < w.heap.size) (hp : Parts w h ps) :
    Calls Try.prog 29 #[.slice (some ⟨h, 0, none⟩) ps.length c] w fun e w' => ∃ v', e = .returned v' ∧ Below w.heap.size w w' ∧ Made w.heap.size v' ps.flatten w' := by
  obtain ⟨i0, hi, hz0, hz1, hz2⟩ := info_parts info54
  have HP := Lib.hid hp
  clear hp
  have hle : ∀ k, sz ps k ≤ ps.flatten.length := flat_le ps
  have hall := sz_all ps
  generalize hn : ps.flatten.length = n at *
  have HFL := Lib.hid hn
  clear hn
  have HLE := Lib.hid hle
  clear hle
  have HALL := Lib.hid hall
  clear hall
  go_enter Try.func29, Try.ntmps29
  go_wp2_with fail
  go_loopw [3, 5, 11] (fun v3 _ v11 wr => ∃ k : Nat, k ≤ ps.length ∧ v11 = .int .i64 (k : Int) ∧ v3 = .int .i64 (sz ps k : Nat) ∧ w = wr)
    (fun _ _ v11 _ => ps.length - (intOf v11).toNat)
  case atStart => exact ⟨0, by omega, rfl, rfl, by trivial⟩
  case round =>
    obtain ⟨k, hk, rfl, rfl, rfl⟩ := hrel
    by_cases hlt : k < ps.length
    · obtain ⟨v, hc, A, c', rfl, -⟩ := HP.out k hlt
      have hs := sz_succ hlt
      have hfl2 := HLE.out (k + 1)
      generalize (ps[k]'hlt).length = m at hc hs
      have HS := Lib.hid hs
      have hb2 : sz ps k + m ≤ 1000 := by omega
      clear hs hfl2
      generalize sz ps k = a at HS hb2
      have hkz : (k : Int) < (ps.length : Int) := by omega
      go_wp2_with fail
      go_roundw
      case rel => exact ⟨k + 1, by omega, by go_num, by rw [HS.out]; go_num, by trivial⟩
      case measure => simp [intOf]; omega
    · obtain rfl : k = ps.length := by omega
      rw [HALL.out]
      have hpn : ¬ (ps.length : Int) < (ps.length : Int) := by omega
      have hn0 : ¬ (n : Int) < 0 := by omega
      have hgr := fun W => grow_any n h0 (by omega) W
      go_wp2_with (go_at_call 39; refine (hgr _).mono ?_; rintro e w1 ⟨v1, rfl, hb1, hown1⟩)
      have HO := Lib.hid hown1
      clear hown1 hk hlt hgr
      go_loopw [6, 8, 27] (fun v6 _ v27 wr => ∃ k : Nat, k ≤ ps.length ∧ v27 = .int .i64 (k : Int) ∧ Below w.heap.size w wr ∧ Hid (wr.ownsRow w.heap.size 54 3 v6 (sz ps k) (cellsOf (ps.take k).flatten)))
        (fun _ _ v27 _ => ps.length - (intOf v27).toNat)
      case atStart => exact ⟨0, by omega, rfl, hb1, Lib.hid HO.out⟩
      case round =>
        obtain ⟨k, hk, rfl, hb, HW⟩ := hrel
        by_cases hlt : k < ps.length
        · obtain ⟨v, hc, A, c', rfl, hlc, hcm, hnil, hr⟩ := (HP.out.below hh hb) k hlt
          have hfl2 := HLE.out (k + 1)
          have hs := flat_succ hlt
          have hs2 := sz_succ hlt
          have hkz : (k : Int) < (ps.length : Int) := by omega
          cases A with
          | none =>
            have hc0 := hnil rfl
            have hl0 : ps[k]'hlt = [] := by
              cases hq : ps[k]'hlt with
              | nil => rfl
              | cons b l => rw [hq] at hr; obtain ⟨_, _, e, _⟩ := hr (by simp); cases e
            rw [hl0] at hc hs hs2
            subst hc0
            have HN : Hid (wr.ownsRow w.heap.size 54 3 u6 (sz ps (k + 1)) (cellsOf (ps.take (k + 1)).flatten)) := Lib.hid (by rw [hs2, hs, List.append_nil]; exact HW.out)
            have hW := HW.out
            clear hs hs2 hfl2
            go_wp2_with (at_builtin; refine wpList_append_own_none rfl _ _ 25 rfl w.heap.size 54 i0 3 Try.underlying25 hi _ _ _ rfl hW rfl ?_)
            go_roundw
            case rel => exact ⟨k + 1, by omega, by go_num, hb, HN⟩
            case measure => simp [intOf]; omega
          | some ad =>
            have hnews := Lib.hid hr.news
            have hW := HW.out
            have hbound : sz ps k + (ps[k]'hlt).length ≤ 1000 := by omega
            have hbs := hb.size
            go_wp2_with (at_builtin; refine wpList_append_own _ rfl _ _ 25 rfl w.heap.size 54 i0 _ 3 32 Try.underlying25 hi hz0 hz1 hz2 rfl (by omega) _ _ _ rfl hW ad (ps[k]'hlt).length c' (cellsOf (ps[k]'hlt)) rfl (cellsOf_length _) hnews.out (cellsOf_one _) (by unfold maxLen; omega) (by omega) hbs ?_; intro v' w2 hown2 hgrow _)
            have hbn : Below w.heap.size w w2 := hb.grown hgrow hbs (fun j hj => (hW.lt j hj).1)
            have HN : Hid (w2.ownsRow w.heap.size 54 3 v' (sz ps (k + 1)) (cellsOf (ps.take (k + 1)).flatten)) := Lib.hid (by rw [hs2, hs, cellsOf_append]; exact hown2)
            clear hown2 hgrow hs hs2 hfl2
            go_roundw
            case rel => exact ⟨k + 1, by omega, by go_num, hbn, HN⟩
            case measure => simp [intOf]; omega
        · obtain rfl : k = ps.length := by omega
          have hown := HW.out
          rw [List.take_length, HALL.out, ← HFL.out] at hown
          go_wp2_with fail
          go_ret
          exact ⟨_, rfl, hb, owned_of_row hown⟩
end Go.Proofs.Ytpfogfglkknmoaa
