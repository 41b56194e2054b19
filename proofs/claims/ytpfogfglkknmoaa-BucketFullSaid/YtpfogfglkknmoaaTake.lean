/- Take. -/
import Derived.Test.YtpfogfglkknmoaaCat
import Derived.Test.YtpfogfglkknmoaaTail
namespace Go.Proofs.Ytpfogfglkknmoaa
open Go.RowKit
theorem empty_of (k : ByteArray) (h : kl k = []) : k = ⟨#[]⟩ := by
  cases k with | mk a => cases a with | mk l => unfold kl at h; simp at h; subst h; rfl

set_option maxHeartbeats 2000000 in
theorem Take_none (l : List Bk) (hs : Sorted l) (hf : Fit l) (hlen : l.length ≤ 100) (k : ByteArray) (now : Int) (hn : Time now) (v : Value) (w : World) (hsl : Sl v l w) (h : LeftP l k now = 0 ∨ kl k = []) :
    Calls Try.prog 13 #[v, .string k, .int .i64 now] w fun e w' => ∃ v', e = .returned (.tuple #[v', .int .i64 22]) ∧ Below w.heap.size w w' ∧ Made w.heap.size v' l w' := by
  have HS := Lib.hid hsl
  obtain ⟨A, c, rfl, hc, hm, -, hr⟩ := hsl
  have hleft := Left_any A c l hs hf (by omega) k now hn w hr
  generalize LeftP l k now = n at h hleft
  by_cases h0 : n = 0
  · subst h0
    go_enter Try.func13, Try.ntmps13
    go_wp2_with (go_at_call 15; refine hleft.mono ?_; rintro e w1 ⟨rfl, hb1⟩)
    go_at_call 26
    refine (clone_any A c l (by omega) _ (hr.below hb1)).mono ?_
    rintro e w2 ⟨v2, rfl, hb2, hv2⟩
    go_wp2_with fail
    go_ret2
    exact ⟨_, rfl, below_seq hb1 hb2, Made.mono hv2 hb1.size⟩
  · have hk := empty_of k (h.resolve_left h0)
    subst hk
    go_enter Try.func13, Try.ntmps13
    go_wp2_with (go_at_call 15; refine hleft.mono ?_; rintro e w1 ⟨rfl, hb1⟩)
    go_at_call 26
    refine (clone_any A c l (by omega) _ (hr.below hb1)).mono ?_
    rintro e w2 ⟨v2, rfl, hb2, hv2⟩
    go_wp2_with fail
    go_ret2
    exact ⟨_, rfl, below_seq hb1 hb2, Made.mono hv2 hb1.size⟩

theorem isEmpty_of (k : ByteArray) (h : kl k ≠ []) : k.toList.isEmpty = false := by
  rw [Lib.toList_data]
  cases hq : k.data.toList with
  | nil => exact absurd hq h
  | cons a l => rfl

set_option maxHeartbeats 2000000 in
theorem Take_full (l : List Bk) (hs : Sorted l) (hf : Fit l) (hlen : l.length ≤ 100) (k : ByteArray) (now : Int) (hn : Time now) (v : Value) (w : World) (hsl : Sl v l w) (h : LeftP l k now ≠ 0) (hk : kl k ≠ []) (hh : hasKey (sweepP l now) k = false) (h24 : 24 ≤ (sweepP l now).length) :
    Calls Try.prog 13 #[v, .string k, .int .i64 now] w fun e w' => ∃ v', e = .returned (.tuple #[v', .int .i64 15]) ∧ Below w.heap.size w w' ∧ Made w.heap.size v' l w' := by
  have HS := Lib.hid hsl
  obtain ⟨A, c, rfl, hc, hm, -, hr⟩ := hsl
  have hleft := Left_any A c l hs hf (by omega) k now hn w hr
  have hsl2 := sweepP_length l now
  have hat := fun A c W hW => at_any A c (sweepP l now) (sweepP_sorted hs now) (by omega) k W hW
  have hsw := fun W hW => Sweep_any l hf (by omega) now hn (.slice A l.length c) W hW
  rw [hh] at hat
  generalize LeftP l k now = n at h hleft
  generalize sweepP l now = s at *
  have hke := isEmpty_of k hk
  go_enter Try.func13, Try.ntmps13
  go_wp2_with (go_at_call 15; refine hleft.mono ?_; rintro e w1 ⟨rfl, hb1⟩)
  go_at_call 14
  refine (hsw _ (HS.out.below hb1)).mono ?_
  rintro e w2 ⟨v2, rfl, hb2, hv2⟩
  obtain ⟨A2, c2, rfl, hc2, hm2, -, hr2⟩ := hv2.sl
  have h24' : (24 : Int) ≤ (s.length : Int) := by omega
  go_wp2_with (go_at_call 27; refine (hat _ _ _ hr2).mono ?_; rintro e w3 ⟨rfl, hb3⟩)
  go_at_call 26
  refine (clone_any A c l (by omega) _ (((hr.below hb1).below hb2).below hb3)).mono ?_
  rintro e w4 ⟨v4, rfl, hb4, hv4⟩
  go_wp2_with fail
  go_ret2
  exact ⟨_, rfl, below_seq (below_seq (below_seq hb1 hb2) hb3) hb4, Made.mono hv4 (Nat.le_trans hb1.size (Nat.le_trans hb2.size hb3.size))⟩

/-- what each operation of the first store's statement leaves -/
def upd (b : Bk) (now : Int) (g n c i : Nat) : Nat → Value → World → Prop
  | 0, v, _ => v = .slice (some ⟨g, 0, none⟩) n c
  | 1, v, _ => v = .int .i64 (i : Int)
  | 2, v, _ => v = .pointer (some ⟨g, i * 3, none⟩)
  | 3, v, _ => v = .pointer (some ⟨g, i * 3 + 2, none⟩)
  | 4, v, _ => v = .int .i64 b.at_
  | 5, v, _ => v = .slice (some ⟨g, 0, none⟩) n c
  | 6, v, _ => v = .int .i64 (i : Int)
  | 7, v, _ => v = .pointer (some ⟨g, i * 3, none⟩)
  | 8, v, _ => v = .agg #[.string b.key, .int .i64 b.left, .int .i64 b.at_]
  | 9, v, _ => v = .int .i64 now
  | 10, v, _ => v = .int .i64 (whole b now)
  | 11, v, _ => v = .int .i64 (whole b now * 25)
  | 12, v, _ => v = .int .i64 (b.at_ + whole b now * 25)
  | 13, v, _ => v = .pointer (some ⟨g, i * 3, none⟩)
  | 14, v, _ => v = .pointer (some ⟨g, i * 3 + 2, none⟩)
  | _, _, _ => True
theorem upd_stable {b : Bk} {now : Int} {g n c i : Nat} : ∀ (w w' : World) (j : Nat) (v : Value), upd b now g n c i j v w → upd b now g n c i j v w' := by
  intro w w' j v h
  unfold upd at h ⊢
  split at h <;> exact h

/-- the row with its bucket turned -/
theorem turn_get {s : List Bk} (hs : Sorted s) {k : ByteArray} {i : Nat} (hi : i < s.length) (hk : kl (s[i]'hi).key = kl k) (n now : Int) (t : Nat) (ht : t < (turnAt s k n now).length) (ht' : t < s.length) :
    (turnAt s k n now)[t]'ht = if t = i then ⟨(s[i]'hi).key, n - 1, (s[i]'hi).at_ + whole (s[i]'hi) now * 25⟩ else s[t]'ht' := by
  have e0 : (turnAt s k n now)[t]'ht = (if kl (s[t]'ht').key = kl k then (⟨(s[t]'ht').key, n - 1, (s[t]'ht').at_ + whole (s[t]'ht') now * 25⟩ : Bk) else s[t]'ht') := by simp only [turnAt, List.getElem_map]
  rw [e0]
  by_cases e : t = i
  · subst e
    rw [if_pos hk, if_pos rfl]
  · rw [if_neg e, if_neg]
    intro hk2
    rcases Nat.lt_trichotomy t i with h | h | h
    · have := sorted_lt hs h hi
      rw [hk2, hk] at this
      exact lt_irrefl' _ this
    · exact e h
    · have := sorted_lt hs h ht'
      rw [hk2, hk] at this
      exact lt_irrefl' _ this
theorem turned_owned {w : World} {B g : Nat} {s : List Bk} (hs : Sorted s) {k : ByteArray} {i : Nat} (hi : i < s.length) (hk : kl (s[i]'hi).key = kl k) (n now : Int) (ho : Owned w B g s) :
    Owned ((w.setCell ⟨g, i * 3 + 2, none⟩ (.int .i64 ((s[i]'hi).at_ + whole (s[i]'hi) now * 25))).setCell ⟨g, i * 3 + 1, none⟩ (.int .i64 (n - 1))) B g (turnAt s k n now) := by
  obtain ⟨h1, h2, h3, h4⟩ := ho
  have hl := turnAt_length s k n now
  refine ⟨h1, by simpa using h2, fun t ht => ?_, fun t ht => ?_⟩
  · have ht' : t < s.length := by omega
    rw [turn_get hs hi hk n now t ht ht']
    have hne : ∀ x y : Nat, x ≠ y → (⟨g, x, none⟩ : Addr) ≠ ⟨g, y, none⟩ := by intro x y hxy e; injection e with _ e; exact hxy e
    by_cases e : t = i
    · subst e
      rw [if_pos rfl]
      obtain ⟨a, b, c⟩ := h3 t ht'
      refine ⟨?_, ?_, ?_⟩
      · exact (World.cell?_setCell_other _ _ _ _ (hne _ _ (by omega))).trans ((World.cell?_setCell_other _ _ _ _ (hne _ _ (by omega))).trans a)
      · exact World.cell?_setCell_same _ _ _ ((World.cell?_setCell_other _ _ _ _ (hne _ _ (by omega))).trans b)
      · exact (World.cell?_setCell_other _ _ _ _ (hne _ _ (by omega))).trans (World.cell?_setCell_same _ _ _ c)
    · rw [if_neg e]
      obtain ⟨a, b, c⟩ := h3 t ht'
      refine ⟨?_, ?_, ?_⟩
      · exact (World.cell?_setCell_other _ _ _ _ (hne _ _ (by omega))).trans ((World.cell?_setCell_other _ _ _ _ (hne _ _ (by omega))).trans a)
      · exact (World.cell?_setCell_other _ _ _ _ (hne _ _ (by omega))).trans ((World.cell?_setCell_other _ _ _ _ (hne _ _ (by omega))).trans b)
      · exact (World.cell?_setCell_other _ _ _ _ (hne _ _ (by omega))).trans ((World.cell?_setCell_other _ _ _ _ (hne _ _ (by omega))).trans c)
  · rw [World.frozen?_setCell, World.frozen?_setCell]
    exact h4 t (by omega)

set_option maxHeartbeats 4000000 in
theorem Take_turn (l : List Bk) (hs : Sorted l) (hf : Fit l) (hlen : l.length ≤ 100) (k : ByteArray) (now : Int) (hn : Time now) (v : Value) (w : World) (hsl : Sl v l w) (h : LeftP l k now ≠ 0) (hnb : 0 ≤ LeftP l k now ∧ LeftP l k now ≤ 4) (hk : kl k ≠ []) (hh : hasKey (sweepP l now) k = true) :
    Calls Try.prog 13 #[v, .string k, .int .i64 now] w fun e w' => ∃ v', e = .returned (.tuple #[v', .int .i64 0]) ∧ Below w.heap.size w w' ∧ Made w.heap.size v' (turnAt (sweepP l now) k (LeftP l k now) now) w' := by
  have HS := Lib.hid hsl
  obtain ⟨A, c0, rfl, hc, hm, -, hr⟩ := hsl
  have hleft := Left_any A c0 l hs hf (by omega) k now hn w hr
  have hsl2 := sweepP_length l now
  have hsort := sweepP_sorted hs now
  have hfit := hf.sweep now
  have hat := fun A c W hW => at_any A c (sweepP l now) hsort (by omega) k W hW
  have hsw := fun W hW => Sweep_any l hf (by omega) now hn (.slice A l.length c0) W hW
  obtain ⟨hi, he⟩ := found hsort hh
  rw [hh] at hat
  generalize LeftP l k now = n at h hleft hnb ⊢
  generalize sweepP l now = s at *
  generalize lower s k = i at hi he hat
  have hfi := hfit _ (List.getElem_mem hi)
  have hwl := whole_le _ hfi now hn
  have hfa := hfi.at_
  have hke := isEmpty_of k hk
  go_enter Try.func13, Try.ntmps13
  go_wp2_with (go_at_call 15; refine hleft.mono ?_; rintro e w1 ⟨rfl, hb1⟩)
  go_at_call 14
  refine (hsw _ (HS.out.below hb1)).mono ?_
  rintro e w2 ⟨v2, rfl, hb2, hv2⟩
  rcases hv2 with ⟨rfl, hnil⟩ | ⟨g, c, rfl, hc2, hm2, ho⟩
  · rw [hnil] at hi; simp at hi
  · go_wp2_with (go_at_call 27; refine (hat _ _ _ ho.row).mono ?_; rintro e w3 ⟨rfl, hb3⟩)
    have ho3 := ho.below hb3
    have hg3 := ho3.2.1
    have HO := Lib.hid ho3
    have hAt : ∀ W, Below w3.heap.size w3 W → At W g (i * 3) (s[i]'hi) := fun W hW => (ho3.2.2.1 i hi).below hW hg3
    have hFz : ∀ W, Below w3.heap.size w3 W → W.frozen? ⟨g, i * 3 + 2, none⟩ = false := fun W hW => (frozen_below hW hg3).trans (ho3.2.2.2 _ (by omega))
    have hFz1 : ∀ W, Below w3.heap.size w3 W → W.frozen? ⟨g, i * 3 + 1, none⟩ = false := fun W hW => (frozen_below hW hg3).trans (ho3.2.2.2 _ (by omega))
    have HT := Lib.hid (fun (W : World) (hW : Below w3.heap.size w3 W) => turned_owned hsort hi he n now (HO.out.below hW))
    have hwh : ∀ W : World, Calls Try.prog 28 #[.agg #[.string (s[i]'hi).key, .int .i64 (s[i]'hi).left, .int .i64 (s[i]'hi).at_], .int .i64 now] W fun e w' => e = .returned (.int .i64 (whole (s[i]'hi) now)) ∧ Below W.heap.size W w' := fun W => whole_any _ hfi now hn W
    have hii : (i : Int) < (s.length : Int) := by omega
    have hi0 : (0 : Int) ≤ (i : Int) := by omega
    have hti : ((i : Int)).toNat = i := by omega
    have hlT := turnAt_length s k n now
    clear he hfit ho3 hsw hleft hat hfi
    generalize s[i]'hi = b at *
    have hw1 : IntKind.i64.wrap (whole b now * 25) = whole b now * 25 := IntWalk.i64_in _ (by omega)
    have hw2 : IntKind.i64.wrap (b.at_ + whole b now * 25) = b.at_ + whole b now * 25 := IntWalk.i64_in _ (by omega)
    go_wp2_with fail
    refine Facts.Tail.wp_region_facts (by kernel_rfl) (upd b now g s.length c i) (fun W => Below w3.heap.size w3 W) (fun W' => ∃ W, Below w3.heap.size w3 W ∧ W' = W.setCell ⟨g, i * 3 + 2, none⟩ (.int .i64 (b.at_ + whole b now * 25))) 15 (by kernel_rfl) (by kernel_rfl) (by kernel_rfl) (by kernel_rfl) upd_stable ((Below.refl _ _).drew) ?_ ?_
    refine ⟨?_, ?_, ?_, ?_, ?_, ?_, ?_, ?_, ?_, ?_, ?_, ?_, ?_, ?_, ?_, ?_, trivial⟩
    · rintro vs x W hG hD hB
      have s9 := hB.slot 9 (v := .slice (some ⟨g, 0, none⟩) s.length c) (by kernel_rfl) rfl
      refine Facts.Tail.step_value (v := .slice (some ⟨g, 0, none⟩) s.length c) rfl (Facts.wanted_none rfl) ?_ (by rw [if_neg (by decide)]; exact hG) rfl
      simp [execOp, s9, go_sem]
    · rintro vs x W hG hD hB
      have s10 := hB.slot 10 (v := .int .i64 (i : Int)) (by kernel_rfl) rfl
      refine Facts.Tail.step_value (v := .int .i64 (i : Int)) rfl (Facts.wanted_none rfl) ?_ (by rw [if_neg (by decide)]; exact hG) rfl
      simp [execOp, s10, go_sem]
    · rintro vs x W hG hD hB
      obtain ⟨f0, s34⟩ := hD.slot 0 34 (by kernel_rfl) (by kernel_rfl)
      rw [(f0 : vs 0 = .slice (some ⟨g, 0, none⟩) s.length c)] at s34
      obtain ⟨f1, s35⟩ := hD.slot 1 35 (by kernel_rfl) (by kernel_rfl)
      rw [(f1 : vs 1 = .int .i64 (i : Int))] at s35
      refine Facts.Tail.step_value (v := .pointer (some ⟨g, i * 3, none⟩)) rfl (Facts.wanted_none rfl) ?_ (by rw [if_neg (by decide)]; exact hG) rfl
      simp [execOp, s34, s35, go_sem, hi0, hii, hti]
    · rintro vs x W hG hD hB
      obtain ⟨f2, s36⟩ := hD.slot 2 36 (by kernel_rfl) (by kernel_rfl)
      rw [(f2 : vs 2 = .pointer (some ⟨g, i * 3, none⟩))] at s36
      refine Facts.Tail.step_value (v := .pointer (some ⟨g, i * 3 + 2, none⟩)) rfl (Facts.wanted_none rfl) ?_ (by rw [if_neg (by decide)]; exact hG) rfl
      simp [execOp, s36, go_sem]
    · rintro vs x W hG hD hB
      obtain ⟨f3, s37⟩ := hD.slot 3 37 (by kernel_rfl) (by kernel_rfl)
      rw [(f3 : vs 3 = .pointer (some ⟨g, i * 3 + 2, none⟩))] at s37
      obtain ⟨d0, d1, d2⟩ := hAt W hG
      refine Facts.Tail.step_value (v := .int .i64 b.at_) rfl (Facts.wanted_none rfl) ?_ (by rw [if_neg (by decide)]; exact hG) rfl
      simp [execOp, s37, go_sem, d2]
    · rintro vs x W hG hD hB
      have s9 := hB.slot 9 (v := .slice (some ⟨g, 0, none⟩) s.length c) (by kernel_rfl) rfl
      refine Facts.Tail.step_value (v := .slice (some ⟨g, 0, none⟩) s.length c) rfl (Facts.wanted_none rfl) ?_ (by rw [if_neg (by decide)]; exact hG) rfl
      simp [execOp, s9, go_sem]
    · rintro vs x W hG hD hB
      have s10 := hB.slot 10 (v := .int .i64 (i : Int)) (by kernel_rfl) rfl
      refine Facts.Tail.step_value (v := .int .i64 (i : Int)) rfl (Facts.wanted_none rfl) ?_ (by rw [if_neg (by decide)]; exact hG) rfl
      simp [execOp, s10, go_sem]
    · rintro vs x W hG hD hB
      obtain ⟨f5, s39⟩ := hD.slot 5 39 (by kernel_rfl) (by kernel_rfl)
      rw [(f5 : vs 5 = .slice (some ⟨g, 0, none⟩) s.length c)] at s39
      obtain ⟨f6, s40⟩ := hD.slot 6 40 (by kernel_rfl) (by kernel_rfl)
      rw [(f6 : vs 6 = .int .i64 (i : Int))] at s40
      refine Facts.Tail.step_value (v := .pointer (some ⟨g, i * 3, none⟩)) rfl (Facts.wanted_none rfl) ?_ (by rw [if_neg (by decide)]; exact hG) rfl
      simp [execOp, s39, s40, go_sem, hi0, hii, hti]
    · rintro vs x W hG hD hB
      obtain ⟨f7, s41⟩ := hD.slot 7 41 (by kernel_rfl) (by kernel_rfl)
      rw [(f7 : vs 7 = .pointer (some ⟨g, i * 3, none⟩))] at s41
      obtain ⟨d0, d1, d2⟩ := hAt W hG
      refine Facts.Tail.step_value (v := .agg #[.string b.key, .int .i64 b.left, .int .i64 b.at_]) rfl (Facts.wanted_none rfl) ?_ (by rw [if_neg (by decide)]; exact hG) rfl
      simp [execOp, s41, go_sem, d0, d1, d2]
    · rintro vs x W hG hD hB
      have s2 := hB.slot 2 (v := .int .i64 now) (by kernel_rfl) rfl
      refine Facts.Tail.step_value (v := .int .i64 now) rfl (Facts.wanted_none rfl) ?_ (by rw [if_neg (by decide)]; exact hG) rfl
      simp [execOp, s2, go_sem]
    · rintro vs x W hG hD hB
      obtain ⟨f8, s42⟩ := hD.slot 8 42 (by kernel_rfl) (by kernel_rfl)
      rw [(f8 : vs 8 = .agg #[.string b.key, .int .i64 b.left, .int .i64 b.at_])] at s42
      obtain ⟨f9, s43⟩ := hD.slot 9 43 (by kernel_rfl) (by kernel_rfl)
      rw [(f9 : vs 9 = .int .i64 now)] at s43
      refine Facts.Tail.step_call (f := 28) (args := #[.agg #[.string b.key, .int .i64 b.left, .int .i64 b.at_], .int .i64 now]) rfl (Facts.wanted_none rfl) ?_ ((hwh W).mono ?_)
      · simp [s42, s43, go_sem]
      · rintro e W2 ⟨rfl, hb9⟩
        exact ⟨_, rfl, by rw [if_neg (by decide)]; exact below_seq hG hb9, trivial, rfl⟩
    · rintro vs x W hG hD hB
      obtain ⟨f10, s44⟩ := hD.slot 10 44 (by kernel_rfl) (by kernel_rfl)
      rw [(f10 : vs 10 = .int .i64 (whole b now))] at s44
      refine Facts.Tail.step_value (v := .int .i64 (whole b now * 25)) rfl (Facts.wanted_none rfl) ?_ (by rw [if_neg (by decide)]; exact hG) rfl
      simp [execOp, s44, go_sem, hw1]
    · rintro vs x W hG hD hB
      obtain ⟨f4, s38⟩ := hD.slot 4 38 (by kernel_rfl) (by kernel_rfl)
      rw [(f4 : vs 4 = .int .i64 b.at_)] at s38
      obtain ⟨f11, s45⟩ := hD.slot 11 45 (by kernel_rfl) (by kernel_rfl)
      rw [(f11 : vs 11 = .int .i64 (whole b now * 25))] at s45
      refine Facts.Tail.step_value (v := .int .i64 (b.at_ + whole b now * 25)) rfl (Facts.wanted_none rfl) ?_ (by rw [if_neg (by decide)]; exact hG) rfl
      simp [execOp, s38, s45, go_sem, hw2]
    · rintro vs x W hG hD hB
      obtain ⟨f0, s34⟩ := hD.slot 0 34 (by kernel_rfl) (by kernel_rfl)
      rw [(f0 : vs 0 = .slice (some ⟨g, 0, none⟩) s.length c)] at s34
      obtain ⟨f1, s35⟩ := hD.slot 1 35 (by kernel_rfl) (by kernel_rfl)
      rw [(f1 : vs 1 = .int .i64 (i : Int))] at s35
      refine Facts.Tail.step_value (v := .pointer (some ⟨g, i * 3, none⟩)) rfl (Facts.wanted_none rfl) ?_ (by rw [if_neg (by decide)]; exact hG) rfl
      simp [execOp, s34, s35, go_sem, hi0, hii, hti]
    · rintro vs x W hG hD hB
      obtain ⟨f13, s47⟩ := hD.slot 13 47 (by kernel_rfl) (by kernel_rfl)
      rw [(f13 : vs 13 = .pointer (some ⟨g, i * 3, none⟩))] at s47
      refine Facts.Tail.step_value (v := .pointer (some ⟨g, i * 3 + 2, none⟩)) rfl (Facts.wanted_none rfl) ?_ (by rw [if_neg (by decide)]; exact hG) rfl
      simp [execOp, s47, go_sem]
    · rintro vs x W hG hD hB
      obtain ⟨f14, s48⟩ := hD.slot 14 48 (by kernel_rfl) (by kernel_rfl)
      rw [(f14 : vs 14 = .pointer (some ⟨g, i * 3 + 2, none⟩))] at s48
      obtain ⟨f12, s46⟩ := hD.slot 12 46 (by kernel_rfl) (by kernel_rfl)
      rw [(f12 : vs 12 = .int .i64 (b.at_ + whole b now * 25))] at s46
      obtain ⟨d0, d1, d2⟩ := hAt W hG
      have hfz := hFz W hG
      refine Facts.Tail.step_skip (w' := W.setCell ⟨g, i * 3 + 2, none⟩ (.int .i64 (b.at_ + whole b now * 25))) rfl rfl (Facts.wanted_none rfl) ?_ (by rw [if_pos rfl]; exact ⟨W, hG, rfl⟩) trivial
      simp [execOp, s48, s46, go_sem, d2, hfz]
    · rintro vs W' ⟨W, hW, rfl⟩ -
      obtain ⟨d0, d1, d2⟩ := hAt W hW
      have e1 : (W.setCell ⟨g, i * 3 + 2, none⟩ (.int .i64 (b.at_ + whole b now * 25))).cell? ⟨g, i * 3 + 1, none⟩ = some (.int .i64 b.left) := (World.cell?_setCell_other _ _ _ _ (by simp)).trans d1
      have e2 : (W.setCell ⟨g, i * 3 + 2, none⟩ (.int .i64 (b.at_ + whole b now * 25))).frozen? ⟨g, i * 3 + 1, none⟩ = false := (World.frozen?_setCell _ _ _ _).trans (hFz1 W hW)
      have hfin := HT.out W hW
      have hbelow : Below w.heap.size w ((W.setCell ⟨g, i * 3 + 2, none⟩ (.int .i64 (b.at_ + whole b now * 25))).setCell ⟨g, i * 3 + 1, none⟩ (.int .i64 (n - 1))) := by
        have hg0 : w.heap.size ≤ g := Nat.le_trans hb1.size ho.1
        exact ((below_seq (below_seq (below_seq hb1 hb2) hb3) hW).setCell (by exact hg0) _).setCell (by exact hg0) _
      have HB := Lib.hid hbelow
      have HF := Lib.hid hfin
      clear hbelow hfin
      generalize (W.setCell ⟨g, i * 3 + 2, none⟩ (.int .i64 (b.at_ + whole b now * 25))) = W2 at *
      simp only [Facts.frameEnd, List.zipIdx, List.foldl, Act.put, List.setIfInBounds_toArray, List.set_cons_succ, List.set_cons_zero, Nat.reduceAdd]
      go_wp2_with fail
      go_ret2
      refine ⟨_, rfl, HB.out, Or.inr ⟨g, c, ?_, ?_, hm2, ?_⟩⟩
      · rw [hlT]; rfl
      · rw [hlT]; exact hc2
      · exact ⟨Nat.le_trans hb1.size HF.out.1, HF.out.2⟩
end Go.Proofs.Ytpfogfglkknmoaa
