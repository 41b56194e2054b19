/- Take, a new key put into its place. -/
import Derived.Test.YtpfogfglkknmoaaTake
import Derived.Test.YtpfogfglkknmoaaRegion
namespace Go.Proofs.Ytpfogfglkknmoaa
open Go.RowKit

theorem sl_one (W : World) (k : ByteArray) (n now : Int) : Sl (.slice (some ⟨W.heap.size, 0, none⟩) 1 1) [⟨k, n, now⟩] (W.alloc (.cells #[.string k, .int .i64 n, .int .i64 now] 54)) := by
  refine ⟨_, 1, rfl, Nat.le_refl _, by unfold maxLen; omega, by simp, fun _ => ⟨W.heap.size, 0, rfl, by simp, fun i hi => ?_⟩⟩
  have : i = 0 := by simp at hi; exact hi
  subst this
  simp
theorem parts_three (W : World) (a b c : Value) (P0 P1 P2 : List Bk) (ha : Sl a P0 W) (hb : Sl b P1 W) (hc : Sl c P2 W) :
    ∃ h, (.slice (some ⟨W.heap.size, 0, none⟩) 3 3 : Value) = .slice (some ⟨h, 0, none⟩) 3 3 ∧ h < (W.alloc (.cells #[a, b, c] 25)).heap.size ∧ Parts (W.alloc (.cells #[a, b, c] 25)) h [P0, P1, P2] := by
  have hb2 : Below W.heap.size W (W.alloc (.cells #[a, b, c] 25)) := (Below.refl _ _).alloc (Nat.le_refl _) _
  refine ⟨W.heap.size, rfl, by simp, fun k hk => ?_⟩
  match k, hk with
  | 0, _ => exact ⟨a, by simp, ha.below hb2⟩
  | 1, _ => exact ⟨b, by simp, hb.below hb2⟩
  | 2, _ => exact ⟨c, by simp, hc.below hb2⟩
  | k + 3, hk => simp at hk; omega
theorem Parts.later {w w' : World} {h : Nat} {ps : List (List Bk)} (hp : Parts w h ps) (hh : h < w.heap.size) (hb : Below w.heap.size w w') : Parts w' h ps := hp.below hh hb

/-- what each operation of the last statement leaves -/
def ins (sv sa sb : Value) (k : ByteArray) (n now : Int) (i : Nat) (B : Nat) (ps : List (List Bk)) : Nat → Value → World → Prop
  | 0, v, _ => v = sv
  | 1, v, _ => v = .int .i64 (i : Int)
  | 2, v, _ => v = .int .i64 (i : Int)
  | 3, v, _ => v = sa
  | 4, v, _ => v = .string k
  | 5, v, _ => v = .int .i64 n
  | 6, v, _ => v = .int .i64 (n - 1)
  | 7, v, _ => v = .int .i64 now
  | 8, v, _ => v = .agg #[.string k, .int .i64 (n - 1), .int .i64 now]
  | 9, v, w => Sl v [⟨k, n - 1, now⟩] w
  | 10, v, _ => v = sv
  | 11, v, _ => v = .int .i64 (i : Int)
  | 12, v, _ => v = sb
  | 13, v, w => ∃ h, v = .slice (some ⟨h, 0, none⟩) 3 3 ∧ h < w.heap.size ∧ Parts w h ps
  | 14, v, w => Made B v ps.flatten w
  | 15, v, w => Made B v ps.flatten w
  | _, v, _ => v = .int .i64 0
theorem ins_stable {sv sa sb : Value} {k : ByteArray} {n now : Int} {i B : Nat} {ps : List (List Bk)} : ∀ (w w' : World) (j : Nat) (v : Value), Below w.heap.size w w' → ins sv sa sb k n now i B ps j v w → ins sv sa sb k n now i B ps j v w' := by
  intro w w' j v hb h
  unfold ins at h ⊢
  split at h <;> first
    | exact h
    | exact Sl.below h hb
    | exact Made.below h hb
    | (obtain ⟨g, h1, h2, h3⟩ := h; exact ⟨g, h1, Nat.lt_of_lt_of_le h2 hb.size, h3.later h2 hb⟩)

theorem row_take {w : World} {A : Option Addr} {l : List Bk} (h : Row w A l) (i : Nat) : Row w A (l.take i) := by
  intro hl
  have hne : l ≠ [] := by intro e; subst e; simp at hl
  obtain ⟨g, o, e, hg, hc⟩ := h hne
  refine ⟨g, o, e, hg, fun j hj => ?_⟩
  rw [List.getElem_take]
  exact hc j (by rw [List.length_take] at hj; omega)
theorem row_drop {w : World} {g : Nat} {l : List Bk} (h : Row w (some ⟨g, 0, none⟩) l) (i : Nat) : Row w (some ⟨g, i * 3, none⟩) (l.drop i) := by
  intro hl
  have hne : l ≠ [] := by intro e; subst e; simp at hl
  obtain ⟨g', o, e, hg, hc⟩ := h hne
  cases e
  refine ⟨g, i * 3, rfl, hg, fun j hj => ?_⟩
  rw [List.getElem_drop]
  rw [List.length_drop] at hj
  have := hc (i + j) (by omega)
  rw [show 0 + (i + j) * 3 = i * 3 + j * 3 from by omega] at this
  exact this

set_option maxHeartbeats 4000000 in
theorem Take_put (l : List Bk) (hs : Sorted l) (hf : Fit l) (hlen : l.length ≤ 100) (k : ByteArray) (now : Int) (hn : Time now) (v : Value) (w : World) (hsl : Sl v l w) (h : LeftP l k now ≠ 0) (hnb : 0 ≤ LeftP l k now ∧ LeftP l k now ≤ 4) (hk : kl k ≠ []) (hh : hasKey (sweepP l now) k = false) (h24 : (sweepP l now).length < 24) :
    Calls Try.prog 13 #[v, .string k, .int .i64 now] w fun e w' => ∃ v', e = .returned (.tuple #[v', .int .i64 0]) ∧ Below w.heap.size w w' ∧ Made w.heap.size v' (putAt (sweepP l now) k (LeftP l k now) now) w' := by
  have HS := Lib.hid hsl
  obtain ⟨A, c0, rfl, hc, hm, -, hr⟩ := hsl
  have hleft := Left_any A c0 l hs hf (by omega) k now hn w hr
  have hsl2 := sweepP_length l now
  have hsort := sweepP_sorted hs now
  have hat := fun A c W hW => at_any A c (sweepP l now) hsort (by omega) k W hW
  have hsw := fun W hW => Sweep_any l hf (by omega) now hn (.slice A l.length c0) W hW
  have hlow := lower_le (sweepP l now) k
  have hput : putAt (sweepP l now) k (LeftP l k now) now = [(sweepP l now).take (lower (sweepP l now) k), [⟨k, LeftP l k now - 1, now⟩], (sweepP l now).drop (lower (sweepP l now) k)].flatten := by
    unfold putAt; simp
  have hpl := putAt_length (sweepP l now) k (LeftP l k now) now
  rw [hput] at hpl
  rw [hput]
  rw [hh] at hat
  generalize LeftP l k now = n at *
  generalize sweepP l now = s at *
  generalize lower s k = i at *
  have hcl : [s.take i, [⟨k, n - 1, now⟩], s.drop i].flatten.length ≤ 1000 := by omega
  have hc0 : 0 < [s.take i, [(⟨k, n - 1, now⟩ : Bk)], s.drop i].flatten.length := by omega
  have hke := isEmpty_of k hk
  have hi0 : (0 : Int) ≤ (i : Int) := by omega
  have hii : (i : Int) ≤ (s.length : Int) := by omega
  have hti : ((i : Int)).toNat = i := by omega
  have h24' : ¬ (24 : Int) ≤ (s.length : Int) := by omega
  have hw1 : IntKind.i64.wrap (n - 1) = n - 1 := IntWalk.i64_in _ (by omega)
  go_enter Try.func13, Try.ntmps13
  go_wp2_with (go_at_call 15; refine hleft.mono ?_; rintro e w1 ⟨rfl, hb1⟩)
  go_at_call 14
  refine (hsw _ (HS.out.below hb1)).mono ?_
  rintro e w2 ⟨v2, rfl, hb2, hv2⟩
  rcases hv2 with ⟨rfl, hnil⟩ | ⟨g, c, rfl, hc2, hm2, ho⟩
  · subst hnil
    obtain rfl : i = 0 := by simpa using hlow
    go_wp2_with (go_at_call 27; refine (hat none 0 _ (fun h => absurd rfl h)).mono ?_; rintro e w3 ⟨rfl, hb3⟩)
    have hla : Sl (.slice none 0 0) (([] : List Bk).take 0) w3 := ⟨none, 0, rfl, Nat.le_refl _, by unfold maxLen; omega, fun _ => rfl, fun h => absurd rfl h⟩
    have hlb : Sl (.slice none 0 0) (([] : List Bk).drop 0) w3 := ⟨none, 0, rfl, Nat.le_refl _, by unfold maxLen; omega, fun _ => rfl, fun h => absurd rfl h⟩
    have hb13 := below_seq (below_seq hb1 hb2) hb3
    clear hat hsw hleft hpl hput hlow hsl2
    go_wp2_with fail
    refine Facts.wp_region_facts (by kernel_rfl) (ins (.slice none 0 0) (.slice none 0 0) (.slice none 0 0) k n now 0 w3.heap.size [([] : List Bk).take 0, [⟨k, n - 1, now⟩], ([] : List Bk).drop 0]) (fun w w' => Below w.heap.size w w') (fun W => Below w3.heap.size w3 W) (by kernel_rfl) (by kernel_rfl) (by kernel_rfl) ins_stable ((Below.refl _ _).drew) ?_ ?_
    refine ⟨?_, ?_, ?_, ?_, ?_, ?_, ?_, ?_, ?_, ?_, ?_, ?_, ?_, ?_, ?_, ?_, ?_, trivial⟩
    · rintro vs x W hR hD hB
      have s9 := hB.slot 9 (v := (.slice none 0 0)) (by kernel_rfl) rfl
      refine Facts.step_value (v := (.slice none 0 0)) rfl (Facts.wanted_none rfl) ?_ hR (Below.refl _ _) rfl
      simp [execOp, s9, go_sem]
    · rintro vs x W hR hD hB
      have s10 := hB.slot 10 (v := .int .i64 ((0 : Nat) : Int)) (by kernel_rfl) rfl
      refine Facts.step_value (v := .int .i64 ((0 : Nat) : Int)) rfl (Facts.wanted_none rfl) ?_ hR (Below.refl _ _) rfl
      simp [execOp, s10, go_sem]
    · rintro vs x W hR hD hB
      have s10 := hB.slot 10 (v := .int .i64 ((0 : Nat) : Int)) (by kernel_rfl) rfl
      refine Facts.step_value (v := .int .i64 ((0 : Nat) : Int)) rfl (Facts.wanted_none rfl) ?_ hR (Below.refl _ _) rfl
      simp [execOp, s10, go_sem]
    · rintro vs x W hR hD hB
      obtain ⟨f0, s61⟩ := hD.slot 0 61 (by kernel_rfl) (by kernel_rfl)
      rw [(f0 : vs 0 = (.slice none 0 0))] at s61
      obtain ⟨f1, s62⟩ := hD.slot 1 62 (by kernel_rfl) (by kernel_rfl)
      rw [(f1 : vs 1 = .int .i64 ((0 : Nat) : Int))] at s62
      obtain ⟨f2, s63⟩ := hD.slot 2 63 (by kernel_rfl) (by kernel_rfl)
      rw [(f2 : vs 2 = .int .i64 ((0 : Nat) : Int))] at s63
      refine Facts.step_value (v := (.slice none 0 0)) rfl (Facts.wanted_none rfl) ?_ hR (Below.refl _ _) rfl
      simp [execOp, s61, s62, s63, go_sem]
    · rintro vs x W hR hD hB
      have s1 := hB.slot 1 (v := .string k) (by kernel_rfl) rfl
      refine Facts.step_value (v := .string k) rfl (Facts.wanted_none rfl) ?_ hR (Below.refl _ _) rfl
      simp [execOp, s1, go_sem]
    · rintro vs x W hR hD hB
      have s8 := hB.slot 8 (v := .int .i64 n) (by kernel_rfl) rfl
      refine Facts.step_value (v := .int .i64 n) rfl (Facts.wanted_none rfl) ?_ hR (Below.refl _ _) rfl
      simp [execOp, s8, go_sem]
    · rintro vs x W hR hD hB
      obtain ⟨f5, s66⟩ := hD.slot 5 66 (by kernel_rfl) (by kernel_rfl)
      rw [(f5 : vs 5 = .int .i64 n)] at s66
      refine Facts.step_value (v := .int .i64 (n - 1)) rfl (Facts.wanted_none rfl) ?_ hR (Below.refl _ _) rfl
      simp [execOp, s66, go_sem, hw1]
    · rintro vs x W hR hD hB
      have s2 := hB.slot 2 (v := .int .i64 now) (by kernel_rfl) rfl
      refine Facts.step_value (v := .int .i64 now) rfl (Facts.wanted_none rfl) ?_ hR (Below.refl _ _) rfl
      simp [execOp, s2, go_sem]
    · rintro vs x W hR hD hB
      obtain ⟨f4, s65⟩ := hD.slot 4 65 (by kernel_rfl) (by kernel_rfl)
      rw [(f4 : vs 4 = .string k)] at s65
      obtain ⟨f6, s67⟩ := hD.slot 6 67 (by kernel_rfl) (by kernel_rfl)
      rw [(f6 : vs 6 = .int .i64 (n - 1))] at s67
      obtain ⟨f7, s68⟩ := hD.slot 7 68 (by kernel_rfl) (by kernel_rfl)
      rw [(f7 : vs 7 = .int .i64 now)] at s68
      refine Facts.step_value (v := .agg #[.string k, .int .i64 (n - 1), .int .i64 now]) rfl (Facts.wanted_none rfl) ?_ hR (Below.refl _ _) rfl
      simp [execOp, s65, s67, s68, go_sem]
    · rintro vs x W hR hD hB
      obtain ⟨f8, s69⟩ := hD.slot 8 69 (by kernel_rfl) (by kernel_rfl)
      rw [(f8 : vs 8 = .agg #[.string k, .int .i64 (n - 1), .int .i64 now])] at s69
      refine Facts.step_world (v := .slice (some ⟨W.heap.size, 0, none⟩) 1 1) (w' := W.alloc (.cells #[.string k, .int .i64 (n - 1), .int .i64 now] 54)) rfl (Facts.wanted_none rfl) ?_ (hR.alloc hR.size _) ((Below.refl _ _).alloc (Nat.le_refl _) _) (sl_one W k (n - 1) now)
      simp [execOp, s69, go_sem]
    · rintro vs x W hR hD hB
      have s9 := hB.slot 9 (v := (.slice none 0 0)) (by kernel_rfl) rfl
      refine Facts.step_value (v := (.slice none 0 0)) rfl (Facts.wanted_none rfl) ?_ hR (Below.refl _ _) rfl
      simp [execOp, s9, go_sem]
    · rintro vs x W hR hD hB
      have s10 := hB.slot 10 (v := .int .i64 ((0 : Nat) : Int)) (by kernel_rfl) rfl
      refine Facts.step_value (v := .int .i64 ((0 : Nat) : Int)) rfl (Facts.wanted_none rfl) ?_ hR (Below.refl _ _) rfl
      simp [execOp, s10, go_sem]
    · rintro vs x W hR hD hB
      obtain ⟨f10, s71⟩ := hD.slot 10 71 (by kernel_rfl) (by kernel_rfl)
      rw [(f10 : vs 10 = (.slice none 0 0))] at s71
      obtain ⟨f11, s72⟩ := hD.slot 11 72 (by kernel_rfl) (by kernel_rfl)
      rw [(f11 : vs 11 = .int .i64 ((0 : Nat) : Int))] at s72
      refine Facts.step_value (v := (.slice none 0 0)) rfl (Facts.wanted_none rfl) ?_ hR (Below.refl _ _) rfl
      simp [execOp, s71, s72, go_sem]
    · rintro vs x W hR hD hB
      obtain ⟨f3, s64⟩ := hD.slot 3 64 (by kernel_rfl) (by kernel_rfl)
      rw [(f3 : vs 3 = (.slice none 0 0))] at s64
      obtain ⟨f9, s70⟩ := hD.slot 9 70 (by kernel_rfl) (by kernel_rfl)
      obtain ⟨f12, s73⟩ := hD.slot 12 73 (by kernel_rfl) (by kernel_rfl)
      rw [(f12 : vs 12 = (.slice none 0 0))] at s73
      refine Facts.step_world (v := .slice (some ⟨W.heap.size, 0, none⟩) 3 3) (w' := W.alloc (.cells #[(.slice none 0 0), vs 9, (.slice none 0 0)] 25)) rfl (Facts.wanted_none rfl) ?_ (hR.alloc hR.size _) ((Below.refl _ _).alloc (Nat.le_refl _) _) (parts_three W (.slice none 0 0) (vs 9) (.slice none 0 0) _ _ _ (hla.below hR) f9 (hlb.below hR))
      have f9' : Sl (vs 9) [⟨k, n - 1, now⟩] W := f9
      obtain ⟨A9, c9, e9, -⟩ := f9'
      simp [execOp, s64, s70, s73, go_sem, e9]
    · rintro vs x W hR hD hB
      obtain ⟨⟨h, f13, hh, hp⟩, s74⟩ := hD.slot 13 74 (by kernel_rfl) (by kernel_rfl)
      rw [f13] at s74
      refine Facts.step_call (f := 29) (args := #[.slice (some ⟨h, 0, none⟩) 3 3]) rfl (Facts.wanted_none rfl) ?_ ((concat_any _ hcl hc0 (by simp) h 3 W hh hp).mono ?_)
      · simp [s74, go_sem]
      · rintro e W2 ⟨v2, rfl, hb2, hv2⟩
        exact ⟨_, rfl, hR.trans (hb2.mono hR.size), hb2, Made.mono hv2 hR.size⟩
    · rintro vs x W hR hD hB
      obtain ⟨f14, s75⟩ := hD.slot 14 75 (by kernel_rfl) (by kernel_rfl)
      refine Facts.step_value (v := vs 14) rfl (Facts.wanted_none rfl) ?_ hR (Below.refl _ _) f14
      simp [execOp, s75, go_sem]
    · rintro vs x W hR hD hB
      refine Facts.step_value (v := .int .i64 0) rfl (Facts.wanted_none rfl) ?_ hR (Below.refl _ _) rfl
      simp [execOp, go_sem]
    · rintro vs W hW hF
      have h15 : Made w3.heap.size (vs 15) _ W := hF 15 (by decide)
      have h16 : vs 16 = .int .i64 0 := hF 16 (by decide)
      have HM := Lib.hid (Made.mono h15 (show w.heap.size ≤ w3.heap.size from hb13.size))
      clear hF h15
      simp only [Facts.frameEnd, List.zipIdx, List.foldl, Act.put, h16, List.setIfInBounds_toArray, List.set_cons_succ, List.set_cons_zero, Nat.reduceAdd]
      go_wp2_with fail
      go_ret2
      exact ⟨_, rfl, below_seq hb13 hW, HM.out⟩
  · have hile : i ≤ s.length := by omega
    have hci : (i : Int) ≤ (c : Int) := by omega
    go_wp2_with (go_at_call 27; refine (hat _ _ _ ho.row).mono ?_; rintro e w3 ⟨rfl, hb3⟩)
    have ho3 := ho.below hb3
    have hla : Sl (.slice (some ⟨g, 0, none⟩) i i) (s.take i) w3 := ⟨_, i, by rw [List.length_take, Nat.min_eq_left hile], by rw [List.length_take]; omega, by omega, by simp, row_take ho3.row i⟩
    by_cases hcc : c = i
    · obtain rfl : c = s.length := by omega
      subst hcc
      have hlb : Sl (.slice (some ⟨g, 0, none⟩) 0 0) (s.drop s.length) w3 := by
        rw [List.drop_length]
        exact ⟨_, 0, rfl, Nat.le_refl _, by unfold maxLen; omega, by simp, fun h => absurd rfl h⟩
      have hb13 := below_seq (below_seq hb1 hb2) hb3
      clear hat hsw hleft hpl hput hlow hsl2
      go_wp2_with fail
      refine Facts.wp_region_facts (by kernel_rfl) (ins (.slice (some ⟨g, 0, none⟩) s.length s.length) (.slice (some ⟨g, 0, none⟩) s.length s.length) (.slice (some ⟨g, 0, none⟩) 0 0) k n now s.length w3.heap.size [s.take s.length, [⟨k, n - 1, now⟩], s.drop s.length]) (fun w w' => Below w.heap.size w w') (fun W => Below w3.heap.size w3 W) (by kernel_rfl) (by kernel_rfl) (by kernel_rfl) ins_stable ((Below.refl _ _).drew) ?_ ?_
      refine ⟨?_, ?_, ?_, ?_, ?_, ?_, ?_, ?_, ?_, ?_, ?_, ?_, ?_, ?_, ?_, ?_, ?_, trivial⟩
      · rintro vs x W hR hD hB
        have s9 := hB.slot 9 (v := (.slice (some ⟨g, 0, none⟩) s.length s.length)) (by kernel_rfl) rfl
        refine Facts.step_value (v := (.slice (some ⟨g, 0, none⟩) s.length s.length)) rfl (Facts.wanted_none rfl) ?_ hR (Below.refl _ _) rfl
        simp [execOp, s9, go_sem]
      · rintro vs x W hR hD hB
        have s10 := hB.slot 10 (v := .int .i64 (s.length : Int)) (by kernel_rfl) rfl
        refine Facts.step_value (v := .int .i64 (s.length : Int)) rfl (Facts.wanted_none rfl) ?_ hR (Below.refl _ _) rfl
        simp [execOp, s10, go_sem]
      · rintro vs x W hR hD hB
        have s10 := hB.slot 10 (v := .int .i64 (s.length : Int)) (by kernel_rfl) rfl
        refine Facts.step_value (v := .int .i64 (s.length : Int)) rfl (Facts.wanted_none rfl) ?_ hR (Below.refl _ _) rfl
        simp [execOp, s10, go_sem]
      · rintro vs x W hR hD hB
        obtain ⟨f0, s61⟩ := hD.slot 0 61 (by kernel_rfl) (by kernel_rfl)
        rw [(f0 : vs 0 = (.slice (some ⟨g, 0, none⟩) s.length s.length))] at s61
        obtain ⟨f1, s62⟩ := hD.slot 1 62 (by kernel_rfl) (by kernel_rfl)
        rw [(f1 : vs 1 = .int .i64 (s.length : Int))] at s62
        obtain ⟨f2, s63⟩ := hD.slot 2 63 (by kernel_rfl) (by kernel_rfl)
        rw [(f2 : vs 2 = .int .i64 (s.length : Int))] at s63
        refine Facts.step_value (v := (.slice (some ⟨g, 0, none⟩) s.length s.length)) rfl (Facts.wanted_none rfl) ?_ hR (Below.refl _ _) rfl
        simp [execOp, s61, s62, s63, go_sem, hi0, hti]
      · rintro vs x W hR hD hB
        have s1 := hB.slot 1 (v := .string k) (by kernel_rfl) rfl
        refine Facts.step_value (v := .string k) rfl (Facts.wanted_none rfl) ?_ hR (Below.refl _ _) rfl
        simp [execOp, s1, go_sem]
      · rintro vs x W hR hD hB
        have s8 := hB.slot 8 (v := .int .i64 n) (by kernel_rfl) rfl
        refine Facts.step_value (v := .int .i64 n) rfl (Facts.wanted_none rfl) ?_ hR (Below.refl _ _) rfl
        simp [execOp, s8, go_sem]
      · rintro vs x W hR hD hB
        obtain ⟨f5, s66⟩ := hD.slot 5 66 (by kernel_rfl) (by kernel_rfl)
        rw [(f5 : vs 5 = .int .i64 n)] at s66
        refine Facts.step_value (v := .int .i64 (n - 1)) rfl (Facts.wanted_none rfl) ?_ hR (Below.refl _ _) rfl
        simp [execOp, s66, go_sem, hw1]
      · rintro vs x W hR hD hB
        have s2 := hB.slot 2 (v := .int .i64 now) (by kernel_rfl) rfl
        refine Facts.step_value (v := .int .i64 now) rfl (Facts.wanted_none rfl) ?_ hR (Below.refl _ _) rfl
        simp [execOp, s2, go_sem]
      · rintro vs x W hR hD hB
        obtain ⟨f4, s65⟩ := hD.slot 4 65 (by kernel_rfl) (by kernel_rfl)
        rw [(f4 : vs 4 = .string k)] at s65
        obtain ⟨f6, s67⟩ := hD.slot 6 67 (by kernel_rfl) (by kernel_rfl)
        rw [(f6 : vs 6 = .int .i64 (n - 1))] at s67
        obtain ⟨f7, s68⟩ := hD.slot 7 68 (by kernel_rfl) (by kernel_rfl)
        rw [(f7 : vs 7 = .int .i64 now)] at s68
        refine Facts.step_value (v := .agg #[.string k, .int .i64 (n - 1), .int .i64 now]) rfl (Facts.wanted_none rfl) ?_ hR (Below.refl _ _) rfl
        simp [execOp, s65, s67, s68, go_sem]
      · rintro vs x W hR hD hB
        obtain ⟨f8, s69⟩ := hD.slot 8 69 (by kernel_rfl) (by kernel_rfl)
        rw [(f8 : vs 8 = .agg #[.string k, .int .i64 (n - 1), .int .i64 now])] at s69
        refine Facts.step_world (v := .slice (some ⟨W.heap.size, 0, none⟩) 1 1) (w' := W.alloc (.cells #[.string k, .int .i64 (n - 1), .int .i64 now] 54)) rfl (Facts.wanted_none rfl) ?_ (hR.alloc hR.size _) ((Below.refl _ _).alloc (Nat.le_refl _) _) (sl_one W k (n - 1) now)
        simp [execOp, s69, go_sem]
      · rintro vs x W hR hD hB
        have s9 := hB.slot 9 (v := (.slice (some ⟨g, 0, none⟩) s.length s.length)) (by kernel_rfl) rfl
        refine Facts.step_value (v := (.slice (some ⟨g, 0, none⟩) s.length s.length)) rfl (Facts.wanted_none rfl) ?_ hR (Below.refl _ _) rfl
        simp [execOp, s9, go_sem]
      · rintro vs x W hR hD hB
        have s10 := hB.slot 10 (v := .int .i64 (s.length : Int)) (by kernel_rfl) rfl
        refine Facts.step_value (v := .int .i64 (s.length : Int)) rfl (Facts.wanted_none rfl) ?_ hR (Below.refl _ _) rfl
        simp [execOp, s10, go_sem]
      · rintro vs x W hR hD hB
        obtain ⟨f10, s71⟩ := hD.slot 10 71 (by kernel_rfl) (by kernel_rfl)
        rw [(f10 : vs 10 = (.slice (some ⟨g, 0, none⟩) s.length s.length))] at s71
        obtain ⟨f11, s72⟩ := hD.slot 11 72 (by kernel_rfl) (by kernel_rfl)
        rw [(f11 : vs 11 = .int .i64 (s.length : Int))] at s72
        refine Facts.step_value (v := (.slice (some ⟨g, 0, none⟩) 0 0)) rfl (Facts.wanted_none rfl) ?_ hR (Below.refl _ _) rfl
        simp [execOp, s71, s72, go_sem, hi0, hti]
      · rintro vs x W hR hD hB
        obtain ⟨f3, s64⟩ := hD.slot 3 64 (by kernel_rfl) (by kernel_rfl)
        rw [(f3 : vs 3 = (.slice (some ⟨g, 0, none⟩) s.length s.length))] at s64
        obtain ⟨f9, s70⟩ := hD.slot 9 70 (by kernel_rfl) (by kernel_rfl)
        obtain ⟨f12, s73⟩ := hD.slot 12 73 (by kernel_rfl) (by kernel_rfl)
        rw [(f12 : vs 12 = (.slice (some ⟨g, 0, none⟩) 0 0))] at s73
        refine Facts.step_world (v := .slice (some ⟨W.heap.size, 0, none⟩) 3 3) (w' := W.alloc (.cells #[(.slice (some ⟨g, 0, none⟩) s.length s.length), vs 9, (.slice (some ⟨g, 0, none⟩) 0 0)] 25)) rfl (Facts.wanted_none rfl) ?_ (hR.alloc hR.size _) ((Below.refl _ _).alloc (Nat.le_refl _) _) (parts_three W (.slice (some ⟨g, 0, none⟩) s.length s.length) (vs 9) (.slice (some ⟨g, 0, none⟩) 0 0) _ _ _ (hla.below hR) f9 (hlb.below hR))
        have f9' : Sl (vs 9) [⟨k, n - 1, now⟩] W := f9
        obtain ⟨A9, c9, e9, -⟩ := f9'
        simp [execOp, s64, s70, s73, go_sem, e9]
      · rintro vs x W hR hD hB
        obtain ⟨⟨h, f13, hh, hp⟩, s74⟩ := hD.slot 13 74 (by kernel_rfl) (by kernel_rfl)
        rw [f13] at s74
        refine Facts.step_call (f := 29) (args := #[.slice (some ⟨h, 0, none⟩) 3 3]) rfl (Facts.wanted_none rfl) ?_ ((concat_any _ hcl hc0 (by simp) h 3 W hh hp).mono ?_)
        · simp [s74, go_sem]
        · rintro e W2 ⟨v2, rfl, hb2, hv2⟩
          exact ⟨_, rfl, hR.trans (hb2.mono hR.size), hb2, Made.mono hv2 hR.size⟩
      · rintro vs x W hR hD hB
        obtain ⟨f14, s75⟩ := hD.slot 14 75 (by kernel_rfl) (by kernel_rfl)
        refine Facts.step_value (v := vs 14) rfl (Facts.wanted_none rfl) ?_ hR (Below.refl _ _) f14
        simp [execOp, s75, go_sem]
      · rintro vs x W hR hD hB
        refine Facts.step_value (v := .int .i64 0) rfl (Facts.wanted_none rfl) ?_ hR (Below.refl _ _) rfl
        simp [execOp, go_sem]
      · rintro vs W hW hF
        have h15 : Made w3.heap.size (vs 15) _ W := hF 15 (by decide)
        have h16 : vs 16 = .int .i64 0 := hF 16 (by decide)
        have HM := Lib.hid (Made.mono h15 (show w.heap.size ≤ w3.heap.size from hb13.size))
        clear hF h15
        simp only [Facts.frameEnd, List.zipIdx, List.foldl, Act.put, h16, List.setIfInBounds_toArray, List.set_cons_succ, List.set_cons_zero, Nat.reduceAdd]
        go_wp2_with fail
        go_ret2
        exact ⟨_, rfl, below_seq hb13 hW, HM.out⟩
    · have hlb : Sl (.slice (some ⟨g, i * 3, none⟩) (s.length - i) (c - i)) (s.drop i) w3 := ⟨_, c - i, by rw [List.length_drop], by rw [List.length_drop]; omega, by omega, by simp, row_drop ho3.row i⟩
      have hb13 := below_seq (below_seq hb1 hb2) hb3
      clear hat hsw hleft hpl hput hlow hsl2
      go_wp2_with fail
      refine Facts.wp_region_facts (by kernel_rfl) (ins (.slice (some ⟨g, 0, none⟩) s.length c) (.slice (some ⟨g, 0, none⟩) i i) (.slice (some ⟨g, i * 3, none⟩) (s.length - i) (c - i)) k n now i w3.heap.size [s.take i, [⟨k, n - 1, now⟩], s.drop i]) (fun w w' => Below w.heap.size w w') (fun W => Below w3.heap.size w3 W) (by kernel_rfl) (by kernel_rfl) (by kernel_rfl) ins_stable ((Below.refl _ _).drew) ?_ ?_
      refine ⟨?_, ?_, ?_, ?_, ?_, ?_, ?_, ?_, ?_, ?_, ?_, ?_, ?_, ?_, ?_, ?_, ?_, trivial⟩
      · rintro vs x W hR hD hB
        have s9 := hB.slot 9 (v := (.slice (some ⟨g, 0, none⟩) s.length c)) (by kernel_rfl) rfl
        refine Facts.step_value (v := (.slice (some ⟨g, 0, none⟩) s.length c)) rfl (Facts.wanted_none rfl) ?_ hR (Below.refl _ _) rfl
        simp [execOp, s9, go_sem]
      · rintro vs x W hR hD hB
        have s10 := hB.slot 10 (v := .int .i64 (i : Int)) (by kernel_rfl) rfl
        refine Facts.step_value (v := .int .i64 (i : Int)) rfl (Facts.wanted_none rfl) ?_ hR (Below.refl _ _) rfl
        simp [execOp, s10, go_sem]
      · rintro vs x W hR hD hB
        have s10 := hB.slot 10 (v := .int .i64 (i : Int)) (by kernel_rfl) rfl
        refine Facts.step_value (v := .int .i64 (i : Int)) rfl (Facts.wanted_none rfl) ?_ hR (Below.refl _ _) rfl
        simp [execOp, s10, go_sem]
      · rintro vs x W hR hD hB
        obtain ⟨f0, s61⟩ := hD.slot 0 61 (by kernel_rfl) (by kernel_rfl)
        rw [(f0 : vs 0 = (.slice (some ⟨g, 0, none⟩) s.length c))] at s61
        obtain ⟨f1, s62⟩ := hD.slot 1 62 (by kernel_rfl) (by kernel_rfl)
        rw [(f1 : vs 1 = .int .i64 (i : Int))] at s62
        obtain ⟨f2, s63⟩ := hD.slot 2 63 (by kernel_rfl) (by kernel_rfl)
        rw [(f2 : vs 2 = .int .i64 (i : Int))] at s63
        refine Facts.step_value (v := (.slice (some ⟨g, 0, none⟩) i i)) rfl (Facts.wanted_none rfl) ?_ hR (Below.refl _ _) rfl
        simp [execOp, s61, s62, s63, go_sem, hi0, hti, hci]
      · rintro vs x W hR hD hB
        have s1 := hB.slot 1 (v := .string k) (by kernel_rfl) rfl
        refine Facts.step_value (v := .string k) rfl (Facts.wanted_none rfl) ?_ hR (Below.refl _ _) rfl
        simp [execOp, s1, go_sem]
      · rintro vs x W hR hD hB
        have s8 := hB.slot 8 (v := .int .i64 n) (by kernel_rfl) rfl
        refine Facts.step_value (v := .int .i64 n) rfl (Facts.wanted_none rfl) ?_ hR (Below.refl _ _) rfl
        simp [execOp, s8, go_sem]
      · rintro vs x W hR hD hB
        obtain ⟨f5, s66⟩ := hD.slot 5 66 (by kernel_rfl) (by kernel_rfl)
        rw [(f5 : vs 5 = .int .i64 n)] at s66
        refine Facts.step_value (v := .int .i64 (n - 1)) rfl (Facts.wanted_none rfl) ?_ hR (Below.refl _ _) rfl
        simp [execOp, s66, go_sem, hw1]
      · rintro vs x W hR hD hB
        have s2 := hB.slot 2 (v := .int .i64 now) (by kernel_rfl) rfl
        refine Facts.step_value (v := .int .i64 now) rfl (Facts.wanted_none rfl) ?_ hR (Below.refl _ _) rfl
        simp [execOp, s2, go_sem]
      · rintro vs x W hR hD hB
        obtain ⟨f4, s65⟩ := hD.slot 4 65 (by kernel_rfl) (by kernel_rfl)
        rw [(f4 : vs 4 = .string k)] at s65
        obtain ⟨f6, s67⟩ := hD.slot 6 67 (by kernel_rfl) (by kernel_rfl)
        rw [(f6 : vs 6 = .int .i64 (n - 1))] at s67
        obtain ⟨f7, s68⟩ := hD.slot 7 68 (by kernel_rfl) (by kernel_rfl)
        rw [(f7 : vs 7 = .int .i64 now)] at s68
        refine Facts.step_value (v := .agg #[.string k, .int .i64 (n - 1), .int .i64 now]) rfl (Facts.wanted_none rfl) ?_ hR (Below.refl _ _) rfl
        simp [execOp, s65, s67, s68, go_sem]
      · rintro vs x W hR hD hB
        obtain ⟨f8, s69⟩ := hD.slot 8 69 (by kernel_rfl) (by kernel_rfl)
        rw [(f8 : vs 8 = .agg #[.string k, .int .i64 (n - 1), .int .i64 now])] at s69
        refine Facts.step_world (v := .slice (some ⟨W.heap.size, 0, none⟩) 1 1) (w' := W.alloc (.cells #[.string k, .int .i64 (n - 1), .int .i64 now] 54)) rfl (Facts.wanted_none rfl) ?_ (hR.alloc hR.size _) ((Below.refl _ _).alloc (Nat.le_refl _) _) (sl_one W k (n - 1) now)
        simp [execOp, s69, go_sem]
      · rintro vs x W hR hD hB
        have s9 := hB.slot 9 (v := (.slice (some ⟨g, 0, none⟩) s.length c)) (by kernel_rfl) rfl
        refine Facts.step_value (v := (.slice (some ⟨g, 0, none⟩) s.length c)) rfl (Facts.wanted_none rfl) ?_ hR (Below.refl _ _) rfl
        simp [execOp, s9, go_sem]
      · rintro vs x W hR hD hB
        have s10 := hB.slot 10 (v := .int .i64 (i : Int)) (by kernel_rfl) rfl
        refine Facts.step_value (v := .int .i64 (i : Int)) rfl (Facts.wanted_none rfl) ?_ hR (Below.refl _ _) rfl
        simp [execOp, s10, go_sem]
      · rintro vs x W hR hD hB
        obtain ⟨f10, s71⟩ := hD.slot 10 71 (by kernel_rfl) (by kernel_rfl)
        rw [(f10 : vs 10 = (.slice (some ⟨g, 0, none⟩) s.length c))] at s71
        obtain ⟨f11, s72⟩ := hD.slot 11 72 (by kernel_rfl) (by kernel_rfl)
        rw [(f11 : vs 11 = .int .i64 (i : Int))] at s72
        refine Facts.step_value (v := (.slice (some ⟨g, i * 3, none⟩) (s.length - i) (c - i))) rfl (Facts.wanted_none rfl) ?_ hR (Below.refl _ _) rfl
        simp [execOp, s71, s72, go_sem, hi0, hii, hti, hcc]
      · rintro vs x W hR hD hB
        obtain ⟨f3, s64⟩ := hD.slot 3 64 (by kernel_rfl) (by kernel_rfl)
        rw [(f3 : vs 3 = (.slice (some ⟨g, 0, none⟩) i i))] at s64
        obtain ⟨f9, s70⟩ := hD.slot 9 70 (by kernel_rfl) (by kernel_rfl)
        obtain ⟨f12, s73⟩ := hD.slot 12 73 (by kernel_rfl) (by kernel_rfl)
        rw [(f12 : vs 12 = (.slice (some ⟨g, i * 3, none⟩) (s.length - i) (c - i)))] at s73
        refine Facts.step_world (v := .slice (some ⟨W.heap.size, 0, none⟩) 3 3) (w' := W.alloc (.cells #[(.slice (some ⟨g, 0, none⟩) i i), vs 9, (.slice (some ⟨g, i * 3, none⟩) (s.length - i) (c - i))] 25)) rfl (Facts.wanted_none rfl) ?_ (hR.alloc hR.size _) ((Below.refl _ _).alloc (Nat.le_refl _) _) (parts_three W (.slice (some ⟨g, 0, none⟩) i i) (vs 9) (.slice (some ⟨g, i * 3, none⟩) (s.length - i) (c - i)) _ _ _ (hla.below hR) f9 (hlb.below hR))
        have f9' : Sl (vs 9) [⟨k, n - 1, now⟩] W := f9
        obtain ⟨A9, c9, e9, -⟩ := f9'
        simp [execOp, s64, s70, s73, go_sem, e9]
      · rintro vs x W hR hD hB
        obtain ⟨⟨h, f13, hh, hp⟩, s74⟩ := hD.slot 13 74 (by kernel_rfl) (by kernel_rfl)
        rw [f13] at s74
        refine Facts.step_call (f := 29) (args := #[.slice (some ⟨h, 0, none⟩) 3 3]) rfl (Facts.wanted_none rfl) ?_ ((concat_any _ hcl hc0 (by simp) h 3 W hh hp).mono ?_)
        · simp [s74, go_sem]
        · rintro e W2 ⟨v2, rfl, hb2, hv2⟩
          exact ⟨_, rfl, hR.trans (hb2.mono hR.size), hb2, Made.mono hv2 hR.size⟩
      · rintro vs x W hR hD hB
        obtain ⟨f14, s75⟩ := hD.slot 14 75 (by kernel_rfl) (by kernel_rfl)
        refine Facts.step_value (v := vs 14) rfl (Facts.wanted_none rfl) ?_ hR (Below.refl _ _) f14
        simp [execOp, s75, go_sem]
      · rintro vs x W hR hD hB
        refine Facts.step_value (v := .int .i64 0) rfl (Facts.wanted_none rfl) ?_ hR (Below.refl _ _) rfl
        simp [execOp, go_sem]
      · rintro vs W hW hF
        have h15 : Made w3.heap.size (vs 15) _ W := hF 15 (by decide)
        have h16 : vs 16 = .int .i64 0 := hF 16 (by decide)
        have HM := Lib.hid (Made.mono h15 (show w.heap.size ≤ w3.heap.size from hb13.size))
        clear hF h15
        simp only [Facts.frameEnd, List.zipIdx, List.foldl, Act.put, h16, List.setIfInBounds_toArray, List.set_cons_succ, List.set_cons_zero, Nat.reduceAdd]
        go_wp2_with fail
        go_ret2
        exact ⟨_, rfl, below_seq hb13 hW, HM.out⟩

end Go.Proofs.Ytpfogfglkknmoaa
