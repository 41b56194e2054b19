/- BucketTells: tells; the walk of the law. -/
import Derived.Test.YtpfogfglkknmoaaChk
import Derived.Test.YtpfogfglkknmoaaApart
namespace Go.Proofs.Ytpfogfglkknmoaa
open Go.RowKit
set_option maxRecDepth 100000 in
set_option maxHeartbeats 4000000 in
theorem tells_any (l : List Bk) (hv : Valid 127 l) (hlen : l.length ≤ 24) (k : ByteArray) (now : Int) (hn : 0 ≤ now ∧ now ≤ 255) (v : Value) (w : World) (hs : Sl v l w) :
    Calls Try.prog 22 #[v, .string k, .int .i64 now] w fun e w' => e = .returned (.bool true) ∧ Below w.heap.size w w' := by
  have hT : Time now := by unfold Time; omega
  have htk := fun W hW => Take_any l hv (by omega) (by omega) k now hT v W hW
  have hrtk := fun W hW => rTake_any l hv (by omega) hlen k now hT v W hW
  have hsw := fun W hW => Sweep_sl hv (by omega) (by omega) now hT v W hW
  have hrsw := fun W hW => rSweep_any l (hv.fit (by omega)) (by omega) now hT v W hW
  have hla := fun W hW => Left_sl hv (by omega) (by omega) k now hT v W hW
  have hlb := fun W hW => rLeft_any l (hv.fit (by omega)) (by omega) k now hT v W hW
  have hwa := fun W hW => Wait_sl hv (by omega) (by omega) k now hT v W hW
  have hwb := fun W hW => rWait_any l hv (by omega) (by omega) k now hn.1 (by omega) v W hW
  have hl1 := takeP_length_le (l := l) k now
  have hl2 := sweepP_length l now
  generalize (takeP l k now).1 = x at *
  generalize (takeP l k now).2 = cd at *
  generalize sweepP l now = y at *
  generalize LeftP l k now = q at *
  generalize waitP l k now = r at *
  have hs1 := fun v1 v2 W h1 h2 => same_any x (by omega) v1 v2 W h1 h2
  have hs2 := fun v1 v2 W h1 h2 => same_any y (by omega) v1 v2 W h1 h2
  go_enter Try.func22, Try.ntmps22
  go_wp2_with fail
  go_at_call 13
  refine (htk _ hs).mono ?_
  rintro e w1 ⟨v1, rfl, hb1, hm1⟩
  replace hs := hs.below hb1
  have hx1 := hm1.sl
  clear hm1
  go_wp2_with fail
  go_at_call 19
  refine (hrtk _ hs).mono ?_
  rintro e w2 ⟨v2, rfl, hb2, hx2⟩
  replace hs := hs.below hb2
  replace hx1 := hx1.below hb2
  go_wp2_with fail
  go_at_call 16
  refine (hs1 _ _ _ hx1 hx2).mono ?_
  rintro e w3 ⟨rfl, hb3⟩
  replace hs := hs.below hb3
  go_wp2_with fail
  go_at_call 14
  refine (hsw _ hs).mono ?_
  rintro e w4 ⟨v4, rfl, hb4, hm4⟩
  replace hs := hs.below hb4
  have hy4 := hm4.sl
  clear hm4
  go_wp2_with fail
  go_at_call 33
  refine (hrsw _ hs).mono ?_
  rintro e w5 ⟨v5, rfl, hb5, hm5⟩
  replace hs := hs.below hb5
  replace hy4 := hy4.below hb5
  have hy5 := hm5.sl
  clear hm5
  go_wp2_with fail
  go_at_call 16
  refine (hs2 _ _ _ hy4 hy5).mono ?_
  rintro e w6 ⟨rfl, hb6⟩
  replace hs := hs.below hb6
  go_wp2_with fail
  go_at_call 15
  refine (hla _ hs).mono ?_
  rintro e w7 ⟨rfl, hb7⟩
  replace hs := hs.below hb7
  go_wp2_with fail
  go_at_call 21
  refine (hlb _ hs).mono ?_
  rintro e w8 ⟨rfl, hb8⟩
  replace hs := hs.below hb8
  go_wp2_with fail
  go_at_call 18
  refine (hwa _ hs).mono ?_
  rintro e w9 ⟨rfl, hb9⟩
  replace hs := hs.below hb9
  go_wp2_with fail
  go_at_call 35
  refine (hwb _ hs).mono ?_
  rintro e w10 ⟨rfl, hb10⟩
  go_wp2_with fail
  go_ret
  exact ⟨rfl, below_seq (below_seq (below_seq (below_seq (below_seq (below_seq (below_seq (below_seq (below_seq hb1 hb2) hb3) hb4) hb5) hb6) hb7) hb8) hb9) hb10⟩

namespace Tells
/-- what each operation of the last statement leaves -/
def tf (v2 sv : Value) (A1 : Option Addr) (len1 c1 bx : Nat) (k kx : ByteArray) (t q2 mo : Int) (r fw : List Bk) : Nat → Value → World → Prop
  | 2, v, _ => v = v2
  | 8, v, _ => v = v2
  | 13, v, _ => v = v2
  | 3, v, _ => v = .string k
  | 14, v, _ => v = .string k
  | 4, v, _ => v = .int .i64 t
  | 9, v, _ => v = .int .i64 t
  | 16, v, _ => v = .int .i64 t
  | 15, v, _ => v = .string kx
  | 20, v, _ => v = .slice A1 len1 c1
  | 23, v, _ => v = .slice A1 len1 c1
  | 21, v, w => Sl v fw w
  | 24, v, w => Sl v fw w
  | 22, v, _ => AnsC fw v
  | 25, v, _ => AnsC fw v
  | 29, v, _ => v = sv
  | 32, v, _ => v = sv
  | 30, v, w => Sl v r w
  | 33, v, w => Sl v r w
  | 31, v, _ => AnsC r v
  | 34, v, _ => AnsC r v
  | 38, v, _ => v = .pointer (some ⟨bx, 2, none⟩)
  | 41, v, _ => v = .pointer (some ⟨bx, 2, none⟩)
  | 39, v, _ => v = .int .i64 q2
  | 42, v, _ => v = .int .i64 q2
  | 40, v, _ => v = .int .i64 mo
  | 43, v, _ => v = .int .i64 mo
  | _, v, _ => v = .bool true
theorem tf_stable {v2 sv : Value} {A1 : Option Addr} {len1 c1 bx : Nat} {k kx : ByteArray} {t q2 mo : Int} {r fw : List Bk} : ∀ (w w' : World) (j : Nat) (v : Value), Below w.heap.size w w' → tf v2 sv A1 len1 c1 bx k kx t q2 mo r fw j v w → tf v2 sv A1 len1 c1 bx k kx t q2 mo r fw j v w' := by
  intro w w' j v hb h
  unfold tf at h ⊢
  split at h <;> first
    | exact h
    | exact Sl.below h hb
set_option maxRecDepth 100000 in
set_option maxHeartbeats 16000000 in
theorem walk (A : Option Addr) (len c : Nat) (f : Nat → Int × Int) (hlc : len ≤ c) (hlen : len ≤ maxLen) (A1 : Option Addr) (len1 c1 : Nat) (f1 : Nat → Bk) (hlen1 : len1 ≤ maxLen) (q0 q1 q2 : Int) (w : World) (hs : Src w A len f) (hraw : Raw w A1 len1 f1) :
    Calls Try.prog 9 #[.slice A len c, .slice A1 len1 c1, .agg #[.int .i64 q0, .int .i64 q1, .int .i64 q2]] w fun e w' => e = .returned (.bool true) ∧ Below w.heap.size w w' := by
  have HS := Lib.hid hs
  have HRAW := Lib.hid hraw
  clear hs hraw
  have hb255 := i64_and255 q1
  have hm0 := Int.emod_nonneg q1 (show (256 : Int) ≠ 0 by omega)
  have hm1 := Int.emod_lt_of_pos q1 (show (0 : Int) < 256 by omega)
  generalize q1 % 256 = t at *
  have hlenZ : (len : Int) ≤ 9223372036854775807 := by unfold maxLen at hlen; omega
  have hlcZ : (len : Int) ≤ (c : Int) := by omega
  have hv := rowsP_valid f (min (min len 24) 26) (by omega)
  have hrl := rowsP_length f (min (min len 24) 26)
  have hrows : ∀ W, Below w.heap.size w W → Calls Try.prog 11 #[.slice A (min len 24) c] W fun e w' => ∃ v', e = .returned v' ∧ Below W.heap.size W w' ∧ Made W.heap.size v' (rowsP f (min (min len 24) 26)) w' :=
    fun W hW => rows_any A (min len 24) c f (by omega) W ((HS.out.below hW).cut _ (by omega))
  generalize rowsP f (min (min len 24) 26) = r at *
  have hr24 : r.length ≤ 24 := by omega
  clear hrl
  have hkey := fun W => key_any q0 W
  have hks := keyP_size q0
  generalize keyP q0 = k at *
  obtain ⟨kx, hadd⟩ : ∃ kx : ByteArray, ∀ W : World, (Op.stringOp .add k ⟨#[120]⟩).run Try.prog W = .ok (.string kx) W := ⟨_, fun W => run_string_add W k ⟨#[120]⟩ (by omega) (by decide)⟩
  clear hks
  have htl := fun kk v W hW => tells_any r hv hr24 kk t (by omega) v W hW
  have hfl := fewP_length f1 (min len1 26)
  have hfew := fun W hW => few_any A1 len1 c1 f1 hlen1 W (HRAW.out.below hW)
  generalize fewP f1 (min len1 26) = fw at *
  have hck1 := fun v W hW => Check_gen fw (by omega) v W hW
  have hck2 := fun v W hW => rCheck_gen fw (by omega) v W hW
  have hck3 := fun v W hW => Check_gen r (by omega) v W hW
  have hck4 := fun v W hW => rCheck_gen r (by omega) v W hW
  have hmost := fun W => most_gen q2 W
  have hrmost := fun W => rMost_any q2 W
  generalize mostP q2 = mo at *
  by_cases h24 : 24 < len
  · have h24Z : (24 : Int) < (len : Int) := by omega
    have h24c : (24 : Int) ≤ (c : Int) := by omega
    rw [show min len 24 = 24 from by omega] at hrows
    go_enter Try.func9, Try.ntmps9
    go_wp2_with (go_at_call 10; refine (awake_any _).mono ?_; rintro e w1 ⟨rfl, hb1⟩)
    go_at_call 11
    refine (hrows _ (below_box2 hb1)).mono ?_
    rintro e w2 ⟨v2, rfl, hb2, hm2⟩
    have hsl := hm2.sl
    have hp1 : w.heap.size < w1.heap.size := Nat.lt_of_lt_of_le (by simp) hb1.size
    have c0 : w2.cell? ⟨w.heap.size, 0, none⟩ = some (.int .i64 q0) := (hb2.cell (p := ⟨w.heap.size, 0, none⟩) hp1).trans ((hb1.cell (p := ⟨w.heap.size, 0, none⟩) (by simp)).trans (by simp))
    have c1' : w2.cell? ⟨w.heap.size, 1, none⟩ = some (.int .i64 q1) := (hb2.cell (p := ⟨w.heap.size, 1, none⟩) hp1).trans ((hb1.cell (p := ⟨w.heap.size, 1, none⟩) (by simp)).trans (by simp))
    have c2 : w2.cell? ⟨w.heap.size, 2, none⟩ = some (.int .i64 q2) := (hb2.cell (p := ⟨w.heap.size, 2, none⟩) hp1).trans ((hb1.cell (p := ⟨w.heap.size, 2, none⟩) (by simp)).trans (by simp))
    have hbb := below_seq (below_box2 hb1) hb2
    have hp2 : w.heap.size < w2.heap.size := Nat.lt_of_lt_of_le hp1 hb2.size
    clear hb1 hb2 hm2
    go_wp2_with (go_at_call 12; refine (hkey _).mono ?_; rintro e w' ⟨rfl, rfl⟩)
    clear c0 c1'
    refine Facts.wp_region_facts (by kernel_rfl) (tf v2 (.slice A 24 c) A1 len1 c1 w.heap.size k kx t q2 mo r fw) (fun w w' => Below w.heap.size w w') (fun W => Below w2.heap.size w2 W) (by kernel_rfl) (by kernel_rfl) (by kernel_rfl) tf_stable ((Below.refl _ _).drew) ?_ ?_
    refine ⟨?_, ?_, ?_, ?_, ?_, ?_, ?_, ?_, ?_, ?_, ?_, ?_, ?_, ?_, ?_, ?_, ?_, ?_, ?_, ?_, ?_, ?_, ?_, ?_, ?_, ?_, ?_, ?_, ?_, ?_, ?_, ?_, ?_, ?_, ?_, ?_, ?_, ?_, ?_, ?_, ?_, ?_, ?_, ?_, ?_, ?_, ?_, trivial⟩
    · rintro vs x W hR hD hB
      have b7 := hB.slot 7 (v := .bool true) (by kernel_rfl) rfl
      refine Facts.step_value (v := .bool true) rfl (Facts.wanted_none rfl) ?_ hR (Below.refl _ _) rfl
      simp [execOp, b7, go_sem]
    · rintro vs x W hR hD hB
      obtain ⟨f0, s25⟩ := hD.slot 0 25 (by kernel_rfl) (by kernel_rfl)
      rw [(f0 : vs 0 = .bool true)] at s25
      refine Facts.step_value (v := .bool true) rfl (Facts.wanted_none rfl) ?_ hR (Below.refl _ _) rfl
      simp [execOp, s25, go_sem]
    · rintro vs x W hR hD hB
      obtain ⟨f1, s26⟩ := hD.slot 1 26 (by kernel_rfl) (by kernel_rfl)
      rw [(f1 : vs 1 = .bool true)] at s26
      have b8 := hB.slot 8 (v := v2) (by kernel_rfl) rfl
      refine Facts.step_value (v := v2) rfl (Facts.wanted_some (g := 1) (b := true) (t := 26) rfl (by kernel_rfl) s26) ?_ hR (Below.refl _ _) rfl
      simp [execOp, b8, go_sem]
    · rintro vs x W hR hD hB
      obtain ⟨f1, s26⟩ := hD.slot 1 26 (by kernel_rfl) (by kernel_rfl)
      rw [(f1 : vs 1 = .bool true)] at s26
      have b10 := hB.slot 10 (v := .string k) (by kernel_rfl) rfl
      refine Facts.step_value (v := .string k) rfl (Facts.wanted_some (g := 1) (b := true) (t := 26) rfl (by kernel_rfl) s26) ?_ hR (Below.refl _ _) rfl
      simp [execOp, b10, go_sem]
    · rintro vs x W hR hD hB
      obtain ⟨f1, s26⟩ := hD.slot 1 26 (by kernel_rfl) (by kernel_rfl)
      rw [(f1 : vs 1 = .bool true)] at s26
      have b9 := hB.slot 9 (v := .int .i64 t) (by kernel_rfl) rfl
      refine Facts.step_value (v := .int .i64 t) rfl (Facts.wanted_some (g := 1) (b := true) (t := 26) rfl (by kernel_rfl) s26) ?_ hR (Below.refl _ _) rfl
      simp [execOp, b9, go_sem]
    · rintro vs x W hR hD hB
      obtain ⟨f1, s26⟩ := hD.slot 1 26 (by kernel_rfl) (by kernel_rfl)
      rw [(f1 : vs 1 = .bool true)] at s26
      obtain ⟨f2, s27⟩ := hD.slot 2 27 (by kernel_rfl) (by kernel_rfl)
      rw [(f2 : vs 2 = v2)] at s27
      obtain ⟨f3, s28⟩ := hD.slot 3 28 (by kernel_rfl) (by kernel_rfl)
      rw [(f3 : vs 3 = .string k)] at s28
      obtain ⟨f4, s29⟩ := hD.slot 4 29 (by kernel_rfl) (by kernel_rfl)
      rw [(f4 : vs 4 = .int .i64 t)] at s29
      refine Facts.step_call (f := 22) (args := #[v2, .string k, .int .i64 t]) rfl (Facts.wanted_some (g := 1) (b := true) (t := 26) rfl (by kernel_rfl) s26) ?_ ((htl k _ _ (hsl.below hR)).mono ?_)
      · simp [s27, s28, s29, go_sem]
      · rintro e W2 ⟨rfl, hb9⟩
        exact ⟨_, rfl, below_seq hR hb9, hb9, rfl⟩
    · rintro vs x W hR hD hB
      obtain ⟨f1, s26⟩ := hD.slot 1 26 (by kernel_rfl) (by kernel_rfl)
      rw [(f1 : vs 1 = .bool true)] at s26
      obtain ⟨f5, s30⟩ := hD.slot 5 30 (by kernel_rfl) (by kernel_rfl)
      rw [(f5 : vs 5 = .bool true)] at s30
      refine Facts.step_value (v := .bool true) rfl (Facts.wanted_none rfl) ?_ hR (Below.refl _ _) rfl
      simp [execOp, s26, s30, go_sem]
    · rintro vs x W hR hD hB
      obtain ⟨f6, s31⟩ := hD.slot 6 31 (by kernel_rfl) (by kernel_rfl)
      rw [(f6 : vs 6 = .bool true)] at s31
      refine Facts.step_value (v := .bool true) rfl (Facts.wanted_none rfl) ?_ hR (Below.refl _ _) rfl
      simp [execOp, s31, go_sem]
    · rintro vs x W hR hD hB
      obtain ⟨f7, s32⟩ := hD.slot 7 32 (by kernel_rfl) (by kernel_rfl)
      rw [(f7 : vs 7 = .bool true)] at s32
      have b8 := hB.slot 8 (v := v2) (by kernel_rfl) rfl
      refine Facts.step_value (v := v2) rfl (Facts.wanted_some (g := 7) (b := true) (t := 32) rfl (by kernel_rfl) s32) ?_ hR (Below.refl _ _) rfl
      simp [execOp, b8, go_sem]
    · rintro vs x W hR hD hB
      obtain ⟨f7, s32⟩ := hD.slot 7 32 (by kernel_rfl) (by kernel_rfl)
      rw [(f7 : vs 7 = .bool true)] at s32
      have b9 := hB.slot 9 (v := .int .i64 t) (by kernel_rfl) rfl
      refine Facts.step_value (v := .int .i64 t) rfl (Facts.wanted_some (g := 7) (b := true) (t := 32) rfl (by kernel_rfl) s32) ?_ hR (Below.refl _ _) rfl
      simp [execOp, b9, go_sem]
    · rintro vs x W hR hD hB
      obtain ⟨f7, s32⟩ := hD.slot 7 32 (by kernel_rfl) (by kernel_rfl)
      rw [(f7 : vs 7 = .bool true)] at s32
      obtain ⟨f8, s33⟩ := hD.slot 8 33 (by kernel_rfl) (by kernel_rfl)
      rw [(f8 : vs 8 = v2)] at s33
      obtain ⟨f9, s34⟩ := hD.slot 9 34 (by kernel_rfl) (by kernel_rfl)
      rw [(f9 : vs 9 = .int .i64 t)] at s34
      refine Facts.step_call (f := 22) (args := #[v2, .string ⟨#[]⟩, .int .i64 t]) rfl (Facts.wanted_some (g := 7) (b := true) (t := 32) rfl (by kernel_rfl) s32) ?_ ((htl ⟨#[]⟩ _ _ (hsl.below hR)).mono ?_)
      · simp [s33, s34, go_sem]
      · rintro e W2 ⟨rfl, hb9⟩
        exact ⟨_, rfl, below_seq hR hb9, hb9, rfl⟩
    · rintro vs x W hR hD hB
      obtain ⟨f7, s32⟩ := hD.slot 7 32 (by kernel_rfl) (by kernel_rfl)
      rw [(f7 : vs 7 = .bool true)] at s32
      obtain ⟨f10, s35⟩ := hD.slot 10 35 (by kernel_rfl) (by kernel_rfl)
      rw [(f10 : vs 10 = .bool true)] at s35
      refine Facts.step_value (v := .bool true) rfl (Facts.wanted_none rfl) ?_ hR (Below.refl _ _) rfl
      simp [execOp, s32, s35, go_sem]
    · rintro vs x W hR hD hB
      obtain ⟨f11, s36⟩ := hD.slot 11 36 (by kernel_rfl) (by kernel_rfl)
      rw [(f11 : vs 11 = .bool true)] at s36
      refine Facts.step_value (v := .bool true) rfl (Facts.wanted_none rfl) ?_ hR (Below.refl _ _) rfl
      simp [execOp, s36, go_sem]
    · rintro vs x W hR hD hB
      obtain ⟨f12, s37⟩ := hD.slot 12 37 (by kernel_rfl) (by kernel_rfl)
      rw [(f12 : vs 12 = .bool true)] at s37
      have b8 := hB.slot 8 (v := v2) (by kernel_rfl) rfl
      refine Facts.step_value (v := v2) rfl (Facts.wanted_some (g := 12) (b := true) (t := 37) rfl (by kernel_rfl) s37) ?_ hR (Below.refl _ _) rfl
      simp [execOp, b8, go_sem]
    · rintro vs x W hR hD hB
      obtain ⟨f12, s37⟩ := hD.slot 12 37 (by kernel_rfl) (by kernel_rfl)
      rw [(f12 : vs 12 = .bool true)] at s37
      have b10 := hB.slot 10 (v := .string k) (by kernel_rfl) rfl
      refine Facts.step_value (v := .string k) rfl (Facts.wanted_some (g := 12) (b := true) (t := 37) rfl (by kernel_rfl) s37) ?_ hR (Below.refl _ _) rfl
      simp [execOp, b10, go_sem]
    · rintro vs x W hR hD hB
      obtain ⟨f12, s37⟩ := hD.slot 12 37 (by kernel_rfl) (by kernel_rfl)
      rw [(f12 : vs 12 = .bool true)] at s37
      obtain ⟨f14, s39⟩ := hD.slot 14 39 (by kernel_rfl) (by kernel_rfl)
      rw [(f14 : vs 14 = .string k)] at s39
      refine Facts.step_value (v := .string kx) rfl (Facts.wanted_some (g := 12) (b := true) (t := 37) rfl (by kernel_rfl) s37) ?_ hR (Below.refl _ _) rfl
      simp [execOp, s39, go_sem, hadd]
    · rintro vs x W hR hD hB
      obtain ⟨f12, s37⟩ := hD.slot 12 37 (by kernel_rfl) (by kernel_rfl)
      rw [(f12 : vs 12 = .bool true)] at s37
      have b9 := hB.slot 9 (v := .int .i64 t) (by kernel_rfl) rfl
      refine Facts.step_value (v := .int .i64 t) rfl (Facts.wanted_some (g := 12) (b := true) (t := 37) rfl (by kernel_rfl) s37) ?_ hR (Below.refl _ _) rfl
      simp [execOp, b9, go_sem]
    · rintro vs x W hR hD hB
      obtain ⟨f12, s37⟩ := hD.slot 12 37 (by kernel_rfl) (by kernel_rfl)
      rw [(f12 : vs 12 = .bool true)] at s37
      obtain ⟨f13, s38⟩ := hD.slot 13 38 (by kernel_rfl) (by kernel_rfl)
      rw [(f13 : vs 13 = v2)] at s38
      obtain ⟨f15, s40⟩ := hD.slot 15 40 (by kernel_rfl) (by kernel_rfl)
      rw [(f15 : vs 15 = .string kx)] at s40
      obtain ⟨f16, s41⟩ := hD.slot 16 41 (by kernel_rfl) (by kernel_rfl)
      rw [(f16 : vs 16 = .int .i64 t)] at s41
      refine Facts.step_call (f := 22) (args := #[v2, .string kx, .int .i64 t]) rfl (Facts.wanted_some (g := 12) (b := true) (t := 37) rfl (by kernel_rfl) s37) ?_ ((htl kx _ _ (hsl.below hR)).mono ?_)
      · simp [s38, s40, s41, go_sem]
      · rintro e W2 ⟨rfl, hb9⟩
        exact ⟨_, rfl, below_seq hR hb9, hb9, rfl⟩
    · rintro vs x W hR hD hB
      obtain ⟨f12, s37⟩ := hD.slot 12 37 (by kernel_rfl) (by kernel_rfl)
      rw [(f12 : vs 12 = .bool true)] at s37
      obtain ⟨f17, s42⟩ := hD.slot 17 42 (by kernel_rfl) (by kernel_rfl)
      rw [(f17 : vs 17 = .bool true)] at s42
      refine Facts.step_value (v := .bool true) rfl (Facts.wanted_none rfl) ?_ hR (Below.refl _ _) rfl
      simp [execOp, s37, s42, go_sem]
    · rintro vs x W hR hD hB
      obtain ⟨f18, s43⟩ := hD.slot 18 43 (by kernel_rfl) (by kernel_rfl)
      rw [(f18 : vs 18 = .bool true)] at s43
      refine Facts.step_value (v := .bool true) rfl (Facts.wanted_none rfl) ?_ hR (Below.refl _ _) rfl
      simp [execOp, s43, go_sem]
    · rintro vs x W hR hD hB
      obtain ⟨f19, s44⟩ := hD.slot 19 44 (by kernel_rfl) (by kernel_rfl)
      rw [(f19 : vs 19 = .bool true)] at s44
      have b1 := hB.slot 1 (v := .slice A1 len1 c1) (by kernel_rfl) rfl
      refine Facts.step_value (v := .slice A1 len1 c1) rfl (Facts.wanted_some (g := 19) (b := true) (t := 44) rfl (by kernel_rfl) s44) ?_ hR (Below.refl _ _) rfl
      simp [execOp, b1, go_sem]
    · rintro vs x W hR hD hB
      obtain ⟨f19, s44⟩ := hD.slot 19 44 (by kernel_rfl) (by kernel_rfl)
      rw [(f19 : vs 19 = .bool true)] at s44
      obtain ⟨f20, s45⟩ := hD.slot 20 45 (by kernel_rfl) (by kernel_rfl)
      rw [(f20 : vs 20 = .slice A1 len1 c1)] at s45
      refine Facts.step_call (f := 23) (args := #[.slice A1 len1 c1]) rfl (Facts.wanted_some (g := 19) (b := true) (t := 44) rfl (by kernel_rfl) s44) ?_ ((hfew W (below_seq hbb hR)).mono ?_)
      · simp [s45, go_sem]
      · rintro e W2 ⟨v9, rfl, hb9, hm9⟩
        exact ⟨_, rfl, below_seq hR hb9, hb9, hm9.sl⟩
    · rintro vs x W hR hD hB
      obtain ⟨f19, s44⟩ := hD.slot 19 44 (by kernel_rfl) (by kernel_rfl)
      rw [(f19 : vs 19 = .bool true)] at s44
      obtain ⟨f21, s46⟩ := hD.slot 21 46 (by kernel_rfl) (by kernel_rfl)
      refine Facts.step_call (f := 20) (args := #[vs 21]) rfl (Facts.wanted_some (g := 19) (b := true) (t := 44) rfl (by kernel_rfl) s44) ?_ ((hck1 _ _ f21).mono ?_)
      · simp [s46, go_sem]
      · rintro e W2 ⟨v9, rfl, ha9, hb9⟩
        exact ⟨_, rfl, below_seq hR hb9, hb9, ha9⟩
    · rintro vs x W hR hD hB
      obtain ⟨f19, s44⟩ := hD.slot 19 44 (by kernel_rfl) (by kernel_rfl)
      rw [(f19 : vs 19 = .bool true)] at s44
      have b1 := hB.slot 1 (v := .slice A1 len1 c1) (by kernel_rfl) rfl
      refine Facts.step_value (v := .slice A1 len1 c1) rfl (Facts.wanted_some (g := 19) (b := true) (t := 44) rfl (by kernel_rfl) s44) ?_ hR (Below.refl _ _) rfl
      simp [execOp, b1, go_sem]
    · rintro vs x W hR hD hB
      obtain ⟨f19, s44⟩ := hD.slot 19 44 (by kernel_rfl) (by kernel_rfl)
      rw [(f19 : vs 19 = .bool true)] at s44
      obtain ⟨f23, s48⟩ := hD.slot 23 48 (by kernel_rfl) (by kernel_rfl)
      rw [(f23 : vs 23 = .slice A1 len1 c1)] at s48
      refine Facts.step_call (f := 23) (args := #[.slice A1 len1 c1]) rfl (Facts.wanted_some (g := 19) (b := true) (t := 44) rfl (by kernel_rfl) s44) ?_ ((hfew W (below_seq hbb hR)).mono ?_)
      · simp [s48, go_sem]
      · rintro e W2 ⟨v9, rfl, hb9, hm9⟩
        exact ⟨_, rfl, below_seq hR hb9, hb9, hm9.sl⟩
    · rintro vs x W hR hD hB
      obtain ⟨f19, s44⟩ := hD.slot 19 44 (by kernel_rfl) (by kernel_rfl)
      rw [(f19 : vs 19 = .bool true)] at s44
      obtain ⟨f24, s49⟩ := hD.slot 24 49 (by kernel_rfl) (by kernel_rfl)
      refine Facts.step_call (f := 24) (args := #[vs 24]) rfl (Facts.wanted_some (g := 19) (b := true) (t := 44) rfl (by kernel_rfl) s44) ?_ ((hck2 _ _ f24).mono ?_)
      · simp [s49, go_sem]
      · rintro e W2 ⟨v9, rfl, ha9, hb9⟩
        exact ⟨_, rfl, below_seq hR hb9, hb9, ha9⟩
    · rintro vs x W hR hD hB
      obtain ⟨f19, s44⟩ := hD.slot 19 44 (by kernel_rfl) (by kernel_rfl)
      rw [(f19 : vs 19 = .bool true)] at s44
      obtain ⟨f22, s47⟩ := hD.slot 22 47 (by kernel_rfl) (by kernel_rfl)
      obtain ⟨f25, s50⟩ := hD.slot 25 50 (by kernel_rfl) (by kernel_rfl)
      obtain ⟨bb, e1, e2⟩ := AnsC.one f22 f25
      rw [e1] at s47
      rw [e2] at s50
      clear e1 e2
      cases bb
      · refine Facts.step_value (v := .bool true) rfl (Facts.wanted_some (g := 19) (b := true) (t := 44) rfl (by kernel_rfl) s44) ?_ hR (Below.refl _ _) rfl
        simp [execOp, s47, s50, go_sem]
      · refine Facts.step_value (v := .bool true) rfl (Facts.wanted_some (g := 19) (b := true) (t := 44) rfl (by kernel_rfl) s44) ?_ hR (Below.refl _ _) rfl
        simp [execOp, s47, s50, go_sem]
    · rintro vs x W hR hD hB
      obtain ⟨f19, s44⟩ := hD.slot 19 44 (by kernel_rfl) (by kernel_rfl)
      rw [(f19 : vs 19 = .bool true)] at s44
      obtain ⟨f26, s51⟩ := hD.slot 26 51 (by kernel_rfl) (by kernel_rfl)
      rw [(f26 : vs 26 = .bool true)] at s51
      refine Facts.step_value (v := .bool true) rfl (Facts.wanted_none rfl) ?_ hR (Below.refl _ _) rfl
      simp [execOp, s44, s51, go_sem]
    · rintro vs x W hR hD hB
      obtain ⟨f27, s52⟩ := hD.slot 27 52 (by kernel_rfl) (by kernel_rfl)
      rw [(f27 : vs 27 = .bool true)] at s52
      refine Facts.step_value (v := .bool true) rfl (Facts.wanted_none rfl) ?_ hR (Below.refl _ _) rfl
      simp [execOp, s52, go_sem]
    · rintro vs x W hR hD hB
      obtain ⟨f28, s53⟩ := hD.slot 28 53 (by kernel_rfl) (by kernel_rfl)
      rw [(f28 : vs 28 = .bool true)] at s53
      have b0 := hB.slot 0 (v := (.slice A 24 c)) (by kernel_rfl) rfl
      refine Facts.step_value (v := (.slice A 24 c)) rfl (Facts.wanted_some (g := 28) (b := true) (t := 53) rfl (by kernel_rfl) s53) ?_ hR (Below.refl _ _) rfl
      simp [execOp, b0, go_sem]
    · rintro vs x W hR hD hB
      obtain ⟨f28, s53⟩ := hD.slot 28 53 (by kernel_rfl) (by kernel_rfl)
      rw [(f28 : vs 28 = .bool true)] at s53
      obtain ⟨f29, s54⟩ := hD.slot 29 54 (by kernel_rfl) (by kernel_rfl)
      rw [(f29 : vs 29 = (.slice A 24 c))] at s54
      refine Facts.step_call (f := 11) (args := #[(.slice A 24 c)]) rfl (Facts.wanted_some (g := 28) (b := true) (t := 53) rfl (by kernel_rfl) s53) ?_ ((hrows W (below_seq hbb hR)).mono ?_)
      · simp [s54, go_sem]
      · rintro e W2 ⟨v9, rfl, hb9, hm9⟩
        exact ⟨_, rfl, below_seq hR hb9, hb9, hm9.sl⟩
    · rintro vs x W hR hD hB
      obtain ⟨f28, s53⟩ := hD.slot 28 53 (by kernel_rfl) (by kernel_rfl)
      rw [(f28 : vs 28 = .bool true)] at s53
      obtain ⟨f30, s55⟩ := hD.slot 30 55 (by kernel_rfl) (by kernel_rfl)
      refine Facts.step_call (f := 20) (args := #[vs 30]) rfl (Facts.wanted_some (g := 28) (b := true) (t := 53) rfl (by kernel_rfl) s53) ?_ ((hck3 _ _ f30).mono ?_)
      · simp [s55, go_sem]
      · rintro e W2 ⟨v9, rfl, ha9, hb9⟩
        exact ⟨_, rfl, below_seq hR hb9, hb9, ha9⟩
    · rintro vs x W hR hD hB
      obtain ⟨f28, s53⟩ := hD.slot 28 53 (by kernel_rfl) (by kernel_rfl)
      rw [(f28 : vs 28 = .bool true)] at s53
      have b0 := hB.slot 0 (v := (.slice A 24 c)) (by kernel_rfl) rfl
      refine Facts.step_value (v := (.slice A 24 c)) rfl (Facts.wanted_some (g := 28) (b := true) (t := 53) rfl (by kernel_rfl) s53) ?_ hR (Below.refl _ _) rfl
      simp [execOp, b0, go_sem]
    · rintro vs x W hR hD hB
      obtain ⟨f28, s53⟩ := hD.slot 28 53 (by kernel_rfl) (by kernel_rfl)
      rw [(f28 : vs 28 = .bool true)] at s53
      obtain ⟨f32, s57⟩ := hD.slot 32 57 (by kernel_rfl) (by kernel_rfl)
      rw [(f32 : vs 32 = (.slice A 24 c))] at s57
      refine Facts.step_call (f := 11) (args := #[(.slice A 24 c)]) rfl (Facts.wanted_some (g := 28) (b := true) (t := 53) rfl (by kernel_rfl) s53) ?_ ((hrows W (below_seq hbb hR)).mono ?_)
      · simp [s57, go_sem]
      · rintro e W2 ⟨v9, rfl, hb9, hm9⟩
        exact ⟨_, rfl, below_seq hR hb9, hb9, hm9.sl⟩
    · rintro vs x W hR hD hB
      obtain ⟨f28, s53⟩ := hD.slot 28 53 (by kernel_rfl) (by kernel_rfl)
      rw [(f28 : vs 28 = .bool true)] at s53
      obtain ⟨f33, s58⟩ := hD.slot 33 58 (by kernel_rfl) (by kernel_rfl)
      refine Facts.step_call (f := 24) (args := #[vs 33]) rfl (Facts.wanted_some (g := 28) (b := true) (t := 53) rfl (by kernel_rfl) s53) ?_ ((hck4 _ _ f33).mono ?_)
      · simp [s58, go_sem]
      · rintro e W2 ⟨v9, rfl, ha9, hb9⟩
        exact ⟨_, rfl, below_seq hR hb9, hb9, ha9⟩
    · rintro vs x W hR hD hB
      obtain ⟨f28, s53⟩ := hD.slot 28 53 (by kernel_rfl) (by kernel_rfl)
      rw [(f28 : vs 28 = .bool true)] at s53
      obtain ⟨f31, s56⟩ := hD.slot 31 56 (by kernel_rfl) (by kernel_rfl)
      obtain ⟨f34, s59⟩ := hD.slot 34 59 (by kernel_rfl) (by kernel_rfl)
      obtain ⟨bb, e1, e2⟩ := AnsC.one f31 f34
      rw [e1] at s56
      rw [e2] at s59
      clear e1 e2
      cases bb
      · refine Facts.step_value (v := .bool true) rfl (Facts.wanted_some (g := 28) (b := true) (t := 53) rfl (by kernel_rfl) s53) ?_ hR (Below.refl _ _) rfl
        simp [execOp, s56, s59, go_sem]
      · refine Facts.step_value (v := .bool true) rfl (Facts.wanted_some (g := 28) (b := true) (t := 53) rfl (by kernel_rfl) s53) ?_ hR (Below.refl _ _) rfl
        simp [execOp, s56, s59, go_sem]
    · rintro vs x W hR hD hB
      obtain ⟨f28, s53⟩ := hD.slot 28 53 (by kernel_rfl) (by kernel_rfl)
      rw [(f28 : vs 28 = .bool true)] at s53
      obtain ⟨f35, s60⟩ := hD.slot 35 60 (by kernel_rfl) (by kernel_rfl)
      rw [(f35 : vs 35 = .bool true)] at s60
      refine Facts.step_value (v := .bool true) rfl (Facts.wanted_none rfl) ?_ hR (Below.refl _ _) rfl
      simp [execOp, s53, s60, go_sem]
    · rintro vs x W hR hD hB
      obtain ⟨f36, s61⟩ := hD.slot 36 61 (by kernel_rfl) (by kernel_rfl)
      rw [(f36 : vs 36 = .bool true)] at s61
      refine Facts.step_value (v := .bool true) rfl (Facts.wanted_none rfl) ?_ hR (Below.refl _ _) rfl
      simp [execOp, s61, go_sem]
    · rintro vs x W hR hD hB
      obtain ⟨f37, s62⟩ := hD.slot 37 62 (by kernel_rfl) (by kernel_rfl)
      rw [(f37 : vs 37 = .bool true)] at s62
      have b5 := hB.slot 5 (v := .pointer (some ⟨w.heap.size, 0, none⟩)) (by kernel_rfl) rfl
      refine Facts.step_value (v := .pointer (some ⟨w.heap.size, 2, none⟩)) rfl (Facts.wanted_some (g := 37) (b := true) (t := 62) rfl (by kernel_rfl) s62) ?_ hR (Below.refl _ _) rfl
      simp [execOp, b5, go_sem]
    · rintro vs x W hR hD hB
      obtain ⟨f37, s62⟩ := hD.slot 37 62 (by kernel_rfl) (by kernel_rfl)
      rw [(f37 : vs 37 = .bool true)] at s62
      obtain ⟨f38, s63⟩ := hD.slot 38 63 (by kernel_rfl) (by kernel_rfl)
      rw [(f38 : vs 38 = .pointer (some ⟨w.heap.size, 2, none⟩))] at s63
      have hc := (hR.cell (p := ⟨w.heap.size, 2, none⟩) hp2).trans c2
      refine Facts.step_value (v := .int .i64 q2) rfl (Facts.wanted_some (g := 37) (b := true) (t := 62) rfl (by kernel_rfl) s62) ?_ hR (Below.refl _ _) rfl
      simp [execOp, s63, go_sem, hc]
    · rintro vs x W hR hD hB
      obtain ⟨f37, s62⟩ := hD.slot 37 62 (by kernel_rfl) (by kernel_rfl)
      rw [(f37 : vs 37 = .bool true)] at s62
      obtain ⟨f39, s64⟩ := hD.slot 39 64 (by kernel_rfl) (by kernel_rfl)
      rw [(f39 : vs 39 = .int .i64 q2)] at s64
      refine Facts.step_call (f := 17) (args := #[.int .i64 q2]) rfl (Facts.wanted_some (g := 37) (b := true) (t := 62) rfl (by kernel_rfl) s62) ?_ ((hmost W).mono ?_)
      · simp [s64, go_sem]
      · rintro e W2 ⟨rfl, hw9⟩
        subst hw9
        exact ⟨_, rfl, hR, Below.refl _ _, rfl⟩
    · rintro vs x W hR hD hB
      obtain ⟨f37, s62⟩ := hD.slot 37 62 (by kernel_rfl) (by kernel_rfl)
      rw [(f37 : vs 37 = .bool true)] at s62
      have b5 := hB.slot 5 (v := .pointer (some ⟨w.heap.size, 0, none⟩)) (by kernel_rfl) rfl
      refine Facts.step_value (v := .pointer (some ⟨w.heap.size, 2, none⟩)) rfl (Facts.wanted_some (g := 37) (b := true) (t := 62) rfl (by kernel_rfl) s62) ?_ hR (Below.refl _ _) rfl
      simp [execOp, b5, go_sem]
    · rintro vs x W hR hD hB
      obtain ⟨f37, s62⟩ := hD.slot 37 62 (by kernel_rfl) (by kernel_rfl)
      rw [(f37 : vs 37 = .bool true)] at s62
      obtain ⟨f41, s66⟩ := hD.slot 41 66 (by kernel_rfl) (by kernel_rfl)
      rw [(f41 : vs 41 = .pointer (some ⟨w.heap.size, 2, none⟩))] at s66
      have hc := (hR.cell (p := ⟨w.heap.size, 2, none⟩) hp2).trans c2
      refine Facts.step_value (v := .int .i64 q2) rfl (Facts.wanted_some (g := 37) (b := true) (t := 62) rfl (by kernel_rfl) s62) ?_ hR (Below.refl _ _) rfl
      simp [execOp, s66, go_sem, hc]
    · rintro vs x W hR hD hB
      obtain ⟨f37, s62⟩ := hD.slot 37 62 (by kernel_rfl) (by kernel_rfl)
      rw [(f37 : vs 37 = .bool true)] at s62
      obtain ⟨f42, s67⟩ := hD.slot 42 67 (by kernel_rfl) (by kernel_rfl)
      rw [(f42 : vs 42 = .int .i64 q2)] at s67
      refine Facts.step_call (f := 25) (args := #[.int .i64 q2]) rfl (Facts.wanted_some (g := 37) (b := true) (t := 62) rfl (by kernel_rfl) s62) ?_ ((hrmost W).mono ?_)
      · simp [s67, go_sem]
      · rintro e W2 ⟨rfl, hw9⟩
        subst hw9
        exact ⟨_, rfl, hR, Below.refl _ _, rfl⟩
    · rintro vs x W hR hD hB
      obtain ⟨f37, s62⟩ := hD.slot 37 62 (by kernel_rfl) (by kernel_rfl)
      rw [(f37 : vs 37 = .bool true)] at s62
      obtain ⟨f40, s65⟩ := hD.slot 40 65 (by kernel_rfl) (by kernel_rfl)
      rw [(f40 : vs 40 = .int .i64 mo)] at s65
      obtain ⟨f43, s68⟩ := hD.slot 43 68 (by kernel_rfl) (by kernel_rfl)
      rw [(f43 : vs 43 = .int .i64 mo)] at s68
      refine Facts.step_value (v := .bool true) rfl (Facts.wanted_some (g := 37) (b := true) (t := 62) rfl (by kernel_rfl) s62) ?_ hR (Below.refl _ _) rfl
      simp [execOp, s65, s68, go_sem]
    · rintro vs x W hR hD hB
      obtain ⟨f37, s62⟩ := hD.slot 37 62 (by kernel_rfl) (by kernel_rfl)
      rw [(f37 : vs 37 = .bool true)] at s62
      obtain ⟨f44, s69⟩ := hD.slot 44 69 (by kernel_rfl) (by kernel_rfl)
      rw [(f44 : vs 44 = .bool true)] at s69
      refine Facts.step_value (v := .bool true) rfl (Facts.wanted_none rfl) ?_ hR (Below.refl _ _) rfl
      simp [execOp, s62, s69, go_sem]
    · rintro vs x W hR hD hB
      obtain ⟨f45, s70⟩ := hD.slot 45 70 (by kernel_rfl) (by kernel_rfl)
      rw [(f45 : vs 45 = .bool true)] at s70
      refine Facts.step_value (v := .bool true) rfl (Facts.wanted_none rfl) ?_ hR (Below.refl _ _) rfl
      simp [execOp, s70, go_sem]
    · rintro vs W hW hF
      have h46 : vs 46 = .bool true := hF 46 (by decide)
      clear hF
      simp only [Facts.frameEnd, List.zipIdx, List.foldl, Act.put, h46, List.setIfInBounds_toArray, List.set_cons_succ, List.set_cons_zero, Nat.reduceAdd]
      go_wp2_with fail
      go_ret
      exact ⟨rfl, below_seq hbb hW⟩
  · have h24Z : ¬ (24 : Int) < (len : Int) := by omega
    rw [show min len 24 = len from by omega] at hrows
    go_enter Try.func9, Try.ntmps9
    go_wp2_with (go_at_call 10; refine (awake_any _).mono ?_; rintro e w1 ⟨rfl, hb1⟩)
    go_at_call 11
    refine (hrows _ (below_box2 hb1)).mono ?_
    rintro e w2 ⟨v2, rfl, hb2, hm2⟩
    have hsl := hm2.sl
    have hp1 : w.heap.size < w1.heap.size := Nat.lt_of_lt_of_le (by simp) hb1.size
    have c0 : w2.cell? ⟨w.heap.size, 0, none⟩ = some (.int .i64 q0) := (hb2.cell (p := ⟨w.heap.size, 0, none⟩) hp1).trans ((hb1.cell (p := ⟨w.heap.size, 0, none⟩) (by simp)).trans (by simp))
    have c1' : w2.cell? ⟨w.heap.size, 1, none⟩ = some (.int .i64 q1) := (hb2.cell (p := ⟨w.heap.size, 1, none⟩) hp1).trans ((hb1.cell (p := ⟨w.heap.size, 1, none⟩) (by simp)).trans (by simp))
    have c2 : w2.cell? ⟨w.heap.size, 2, none⟩ = some (.int .i64 q2) := (hb2.cell (p := ⟨w.heap.size, 2, none⟩) hp1).trans ((hb1.cell (p := ⟨w.heap.size, 2, none⟩) (by simp)).trans (by simp))
    have hbb := below_seq (below_box2 hb1) hb2
    have hp2 : w.heap.size < w2.heap.size := Nat.lt_of_lt_of_le hp1 hb2.size
    clear hb1 hb2 hm2
    go_wp2_with (go_at_call 12; refine (hkey _).mono ?_; rintro e w' ⟨rfl, rfl⟩)
    clear c0 c1'
    refine Facts.wp_region_facts (by kernel_rfl) (tf v2 (.slice A len c) A1 len1 c1 w.heap.size k kx t q2 mo r fw) (fun w w' => Below w.heap.size w w') (fun W => Below w2.heap.size w2 W) (by kernel_rfl) (by kernel_rfl) (by kernel_rfl) tf_stable ((Below.refl _ _).drew) ?_ ?_
    refine ⟨?_, ?_, ?_, ?_, ?_, ?_, ?_, ?_, ?_, ?_, ?_, ?_, ?_, ?_, ?_, ?_, ?_, ?_, ?_, ?_, ?_, ?_, ?_, ?_, ?_, ?_, ?_, ?_, ?_, ?_, ?_, ?_, ?_, ?_, ?_, ?_, ?_, ?_, ?_, ?_, ?_, ?_, ?_, ?_, ?_, ?_, ?_, trivial⟩
    · rintro vs x W hR hD hB
      have b7 := hB.slot 7 (v := .bool true) (by kernel_rfl) rfl
      refine Facts.step_value (v := .bool true) rfl (Facts.wanted_none rfl) ?_ hR (Below.refl _ _) rfl
      simp [execOp, b7, go_sem]
    · rintro vs x W hR hD hB
      obtain ⟨f0, s25⟩ := hD.slot 0 25 (by kernel_rfl) (by kernel_rfl)
      rw [(f0 : vs 0 = .bool true)] at s25
      refine Facts.step_value (v := .bool true) rfl (Facts.wanted_none rfl) ?_ hR (Below.refl _ _) rfl
      simp [execOp, s25, go_sem]
    · rintro vs x W hR hD hB
      obtain ⟨f1, s26⟩ := hD.slot 1 26 (by kernel_rfl) (by kernel_rfl)
      rw [(f1 : vs 1 = .bool true)] at s26
      have b8 := hB.slot 8 (v := v2) (by kernel_rfl) rfl
      refine Facts.step_value (v := v2) rfl (Facts.wanted_some (g := 1) (b := true) (t := 26) rfl (by kernel_rfl) s26) ?_ hR (Below.refl _ _) rfl
      simp [execOp, b8, go_sem]
    · rintro vs x W hR hD hB
      obtain ⟨f1, s26⟩ := hD.slot 1 26 (by kernel_rfl) (by kernel_rfl)
      rw [(f1 : vs 1 = .bool true)] at s26
      have b10 := hB.slot 10 (v := .string k) (by kernel_rfl) rfl
      refine Facts.step_value (v := .string k) rfl (Facts.wanted_some (g := 1) (b := true) (t := 26) rfl (by kernel_rfl) s26) ?_ hR (Below.refl _ _) rfl
      simp [execOp, b10, go_sem]
    · rintro vs x W hR hD hB
      obtain ⟨f1, s26⟩ := hD.slot 1 26 (by kernel_rfl) (by kernel_rfl)
      rw [(f1 : vs 1 = .bool true)] at s26
      have b9 := hB.slot 9 (v := .int .i64 t) (by kernel_rfl) rfl
      refine Facts.step_value (v := .int .i64 t) rfl (Facts.wanted_some (g := 1) (b := true) (t := 26) rfl (by kernel_rfl) s26) ?_ hR (Below.refl _ _) rfl
      simp [execOp, b9, go_sem]
    · rintro vs x W hR hD hB
      obtain ⟨f1, s26⟩ := hD.slot 1 26 (by kernel_rfl) (by kernel_rfl)
      rw [(f1 : vs 1 = .bool true)] at s26
      obtain ⟨f2, s27⟩ := hD.slot 2 27 (by kernel_rfl) (by kernel_rfl)
      rw [(f2 : vs 2 = v2)] at s27
      obtain ⟨f3, s28⟩ := hD.slot 3 28 (by kernel_rfl) (by kernel_rfl)
      rw [(f3 : vs 3 = .string k)] at s28
      obtain ⟨f4, s29⟩ := hD.slot 4 29 (by kernel_rfl) (by kernel_rfl)
      rw [(f4 : vs 4 = .int .i64 t)] at s29
      refine Facts.step_call (f := 22) (args := #[v2, .string k, .int .i64 t]) rfl (Facts.wanted_some (g := 1) (b := true) (t := 26) rfl (by kernel_rfl) s26) ?_ ((htl k _ _ (hsl.below hR)).mono ?_)
      · simp [s27, s28, s29, go_sem]
      · rintro e W2 ⟨rfl, hb9⟩
        exact ⟨_, rfl, below_seq hR hb9, hb9, rfl⟩
    · rintro vs x W hR hD hB
      obtain ⟨f1, s26⟩ := hD.slot 1 26 (by kernel_rfl) (by kernel_rfl)
      rw [(f1 : vs 1 = .bool true)] at s26
      obtain ⟨f5, s30⟩ := hD.slot 5 30 (by kernel_rfl) (by kernel_rfl)
      rw [(f5 : vs 5 = .bool true)] at s30
      refine Facts.step_value (v := .bool true) rfl (Facts.wanted_none rfl) ?_ hR (Below.refl _ _) rfl
      simp [execOp, s26, s30, go_sem]
    · rintro vs x W hR hD hB
      obtain ⟨f6, s31⟩ := hD.slot 6 31 (by kernel_rfl) (by kernel_rfl)
      rw [(f6 : vs 6 = .bool true)] at s31
      refine Facts.step_value (v := .bool true) rfl (Facts.wanted_none rfl) ?_ hR (Below.refl _ _) rfl
      simp [execOp, s31, go_sem]
    · rintro vs x W hR hD hB
      obtain ⟨f7, s32⟩ := hD.slot 7 32 (by kernel_rfl) (by kernel_rfl)
      rw [(f7 : vs 7 = .bool true)] at s32
      have b8 := hB.slot 8 (v := v2) (by kernel_rfl) rfl
      refine Facts.step_value (v := v2) rfl (Facts.wanted_some (g := 7) (b := true) (t := 32) rfl (by kernel_rfl) s32) ?_ hR (Below.refl _ _) rfl
      simp [execOp, b8, go_sem]
    · rintro vs x W hR hD hB
      obtain ⟨f7, s32⟩ := hD.slot 7 32 (by kernel_rfl) (by kernel_rfl)
      rw [(f7 : vs 7 = .bool true)] at s32
      have b9 := hB.slot 9 (v := .int .i64 t) (by kernel_rfl) rfl
      refine Facts.step_value (v := .int .i64 t) rfl (Facts.wanted_some (g := 7) (b := true) (t := 32) rfl (by kernel_rfl) s32) ?_ hR (Below.refl _ _) rfl
      simp [execOp, b9, go_sem]
    · rintro vs x W hR hD hB
      obtain ⟨f7, s32⟩ := hD.slot 7 32 (by kernel_rfl) (by kernel_rfl)
      rw [(f7 : vs 7 = .bool true)] at s32
      obtain ⟨f8, s33⟩ := hD.slot 8 33 (by kernel_rfl) (by kernel_rfl)
      rw [(f8 : vs 8 = v2)] at s33
      obtain ⟨f9, s34⟩ := hD.slot 9 34 (by kernel_rfl) (by kernel_rfl)
      rw [(f9 : vs 9 = .int .i64 t)] at s34
      refine Facts.step_call (f := 22) (args := #[v2, .string ⟨#[]⟩, .int .i64 t]) rfl (Facts.wanted_some (g := 7) (b := true) (t := 32) rfl (by kernel_rfl) s32) ?_ ((htl ⟨#[]⟩ _ _ (hsl.below hR)).mono ?_)
      · simp [s33, s34, go_sem]
      · rintro e W2 ⟨rfl, hb9⟩
        exact ⟨_, rfl, below_seq hR hb9, hb9, rfl⟩
    · rintro vs x W hR hD hB
      obtain ⟨f7, s32⟩ := hD.slot 7 32 (by kernel_rfl) (by kernel_rfl)
      rw [(f7 : vs 7 = .bool true)] at s32
      obtain ⟨f10, s35⟩ := hD.slot 10 35 (by kernel_rfl) (by kernel_rfl)
      rw [(f10 : vs 10 = .bool true)] at s35
      refine Facts.step_value (v := .bool true) rfl (Facts.wanted_none rfl) ?_ hR (Below.refl _ _) rfl
      simp [execOp, s32, s35, go_sem]
    · rintro vs x W hR hD hB
      obtain ⟨f11, s36⟩ := hD.slot 11 36 (by kernel_rfl) (by kernel_rfl)
      rw [(f11 : vs 11 = .bool true)] at s36
      refine Facts.step_value (v := .bool true) rfl (Facts.wanted_none rfl) ?_ hR (Below.refl _ _) rfl
      simp [execOp, s36, go_sem]
    · rintro vs x W hR hD hB
      obtain ⟨f12, s37⟩ := hD.slot 12 37 (by kernel_rfl) (by kernel_rfl)
      rw [(f12 : vs 12 = .bool true)] at s37
      have b8 := hB.slot 8 (v := v2) (by kernel_rfl) rfl
      refine Facts.step_value (v := v2) rfl (Facts.wanted_some (g := 12) (b := true) (t := 37) rfl (by kernel_rfl) s37) ?_ hR (Below.refl _ _) rfl
      simp [execOp, b8, go_sem]
    · rintro vs x W hR hD hB
      obtain ⟨f12, s37⟩ := hD.slot 12 37 (by kernel_rfl) (by kernel_rfl)
      rw [(f12 : vs 12 = .bool true)] at s37
      have b10 := hB.slot 10 (v := .string k) (by kernel_rfl) rfl
      refine Facts.step_value (v := .string k) rfl (Facts.wanted_some (g := 12) (b := true) (t := 37) rfl (by kernel_rfl) s37) ?_ hR (Below.refl _ _) rfl
      simp [execOp, b10, go_sem]
    · rintro vs x W hR hD hB
      obtain ⟨f12, s37⟩ := hD.slot 12 37 (by kernel_rfl) (by kernel_rfl)
      rw [(f12 : vs 12 = .bool true)] at s37
      obtain ⟨f14, s39⟩ := hD.slot 14 39 (by kernel_rfl) (by kernel_rfl)
      rw [(f14 : vs 14 = .string k)] at s39
      refine Facts.step_value (v := .string kx) rfl (Facts.wanted_some (g := 12) (b := true) (t := 37) rfl (by kernel_rfl) s37) ?_ hR (Below.refl _ _) rfl
      simp [execOp, s39, go_sem, hadd]
    · rintro vs x W hR hD hB
      obtain ⟨f12, s37⟩ := hD.slot 12 37 (by kernel_rfl) (by kernel_rfl)
      rw [(f12 : vs 12 = .bool true)] at s37
      have b9 := hB.slot 9 (v := .int .i64 t) (by kernel_rfl) rfl
      refine Facts.step_value (v := .int .i64 t) rfl (Facts.wanted_some (g := 12) (b := true) (t := 37) rfl (by kernel_rfl) s37) ?_ hR (Below.refl _ _) rfl
      simp [execOp, b9, go_sem]
    · rintro vs x W hR hD hB
      obtain ⟨f12, s37⟩ := hD.slot 12 37 (by kernel_rfl) (by kernel_rfl)
      rw [(f12 : vs 12 = .bool true)] at s37
      obtain ⟨f13, s38⟩ := hD.slot 13 38 (by kernel_rfl) (by kernel_rfl)
      rw [(f13 : vs 13 = v2)] at s38
      obtain ⟨f15, s40⟩ := hD.slot 15 40 (by kernel_rfl) (by kernel_rfl)
      rw [(f15 : vs 15 = .string kx)] at s40
      obtain ⟨f16, s41⟩ := hD.slot 16 41 (by kernel_rfl) (by kernel_rfl)
      rw [(f16 : vs 16 = .int .i64 t)] at s41
      refine Facts.step_call (f := 22) (args := #[v2, .string kx, .int .i64 t]) rfl (Facts.wanted_some (g := 12) (b := true) (t := 37) rfl (by kernel_rfl) s37) ?_ ((htl kx _ _ (hsl.below hR)).mono ?_)
      · simp [s38, s40, s41, go_sem]
      · rintro e W2 ⟨rfl, hb9⟩
        exact ⟨_, rfl, below_seq hR hb9, hb9, rfl⟩
    · rintro vs x W hR hD hB
      obtain ⟨f12, s37⟩ := hD.slot 12 37 (by kernel_rfl) (by kernel_rfl)
      rw [(f12 : vs 12 = .bool true)] at s37
      obtain ⟨f17, s42⟩ := hD.slot 17 42 (by kernel_rfl) (by kernel_rfl)
      rw [(f17 : vs 17 = .bool true)] at s42
      refine Facts.step_value (v := .bool true) rfl (Facts.wanted_none rfl) ?_ hR (Below.refl _ _) rfl
      simp [execOp, s37, s42, go_sem]
    · rintro vs x W hR hD hB
      obtain ⟨f18, s43⟩ := hD.slot 18 43 (by kernel_rfl) (by kernel_rfl)
      rw [(f18 : vs 18 = .bool true)] at s43
      refine Facts.step_value (v := .bool true) rfl (Facts.wanted_none rfl) ?_ hR (Below.refl _ _) rfl
      simp [execOp, s43, go_sem]
    · rintro vs x W hR hD hB
      obtain ⟨f19, s44⟩ := hD.slot 19 44 (by kernel_rfl) (by kernel_rfl)
      rw [(f19 : vs 19 = .bool true)] at s44
      have b1 := hB.slot 1 (v := .slice A1 len1 c1) (by kernel_rfl) rfl
      refine Facts.step_value (v := .slice A1 len1 c1) rfl (Facts.wanted_some (g := 19) (b := true) (t := 44) rfl (by kernel_rfl) s44) ?_ hR (Below.refl _ _) rfl
      simp [execOp, b1, go_sem]
    · rintro vs x W hR hD hB
      obtain ⟨f19, s44⟩ := hD.slot 19 44 (by kernel_rfl) (by kernel_rfl)
      rw [(f19 : vs 19 = .bool true)] at s44
      obtain ⟨f20, s45⟩ := hD.slot 20 45 (by kernel_rfl) (by kernel_rfl)
      rw [(f20 : vs 20 = .slice A1 len1 c1)] at s45
      refine Facts.step_call (f := 23) (args := #[.slice A1 len1 c1]) rfl (Facts.wanted_some (g := 19) (b := true) (t := 44) rfl (by kernel_rfl) s44) ?_ ((hfew W (below_seq hbb hR)).mono ?_)
      · simp [s45, go_sem]
      · rintro e W2 ⟨v9, rfl, hb9, hm9⟩
        exact ⟨_, rfl, below_seq hR hb9, hb9, hm9.sl⟩
    · rintro vs x W hR hD hB
      obtain ⟨f19, s44⟩ := hD.slot 19 44 (by kernel_rfl) (by kernel_rfl)
      rw [(f19 : vs 19 = .bool true)] at s44
      obtain ⟨f21, s46⟩ := hD.slot 21 46 (by kernel_rfl) (by kernel_rfl)
      refine Facts.step_call (f := 20) (args := #[vs 21]) rfl (Facts.wanted_some (g := 19) (b := true) (t := 44) rfl (by kernel_rfl) s44) ?_ ((hck1 _ _ f21).mono ?_)
      · simp [s46, go_sem]
      · rintro e W2 ⟨v9, rfl, ha9, hb9⟩
        exact ⟨_, rfl, below_seq hR hb9, hb9, ha9⟩
    · rintro vs x W hR hD hB
      obtain ⟨f19, s44⟩ := hD.slot 19 44 (by kernel_rfl) (by kernel_rfl)
      rw [(f19 : vs 19 = .bool true)] at s44
      have b1 := hB.slot 1 (v := .slice A1 len1 c1) (by kernel_rfl) rfl
      refine Facts.step_value (v := .slice A1 len1 c1) rfl (Facts.wanted_some (g := 19) (b := true) (t := 44) rfl (by kernel_rfl) s44) ?_ hR (Below.refl _ _) rfl
      simp [execOp, b1, go_sem]
    · rintro vs x W hR hD hB
      obtain ⟨f19, s44⟩ := hD.slot 19 44 (by kernel_rfl) (by kernel_rfl)
      rw [(f19 : vs 19 = .bool true)] at s44
      obtain ⟨f23, s48⟩ := hD.slot 23 48 (by kernel_rfl) (by kernel_rfl)
      rw [(f23 : vs 23 = .slice A1 len1 c1)] at s48
      refine Facts.step_call (f := 23) (args := #[.slice A1 len1 c1]) rfl (Facts.wanted_some (g := 19) (b := true) (t := 44) rfl (by kernel_rfl) s44) ?_ ((hfew W (below_seq hbb hR)).mono ?_)
      · simp [s48, go_sem]
      · rintro e W2 ⟨v9, rfl, hb9, hm9⟩
        exact ⟨_, rfl, below_seq hR hb9, hb9, hm9.sl⟩
    · rintro vs x W hR hD hB
      obtain ⟨f19, s44⟩ := hD.slot 19 44 (by kernel_rfl) (by kernel_rfl)
      rw [(f19 : vs 19 = .bool true)] at s44
      obtain ⟨f24, s49⟩ := hD.slot 24 49 (by kernel_rfl) (by kernel_rfl)
      refine Facts.step_call (f := 24) (args := #[vs 24]) rfl (Facts.wanted_some (g := 19) (b := true) (t := 44) rfl (by kernel_rfl) s44) ?_ ((hck2 _ _ f24).mono ?_)
      · simp [s49, go_sem]
      · rintro e W2 ⟨v9, rfl, ha9, hb9⟩
        exact ⟨_, rfl, below_seq hR hb9, hb9, ha9⟩
    · rintro vs x W hR hD hB
      obtain ⟨f19, s44⟩ := hD.slot 19 44 (by kernel_rfl) (by kernel_rfl)
      rw [(f19 : vs 19 = .bool true)] at s44
      obtain ⟨f22, s47⟩ := hD.slot 22 47 (by kernel_rfl) (by kernel_rfl)
      obtain ⟨f25, s50⟩ := hD.slot 25 50 (by kernel_rfl) (by kernel_rfl)
      obtain ⟨bb, e1, e2⟩ := AnsC.one f22 f25
      rw [e1] at s47
      rw [e2] at s50
      clear e1 e2
      cases bb
      · refine Facts.step_value (v := .bool true) rfl (Facts.wanted_some (g := 19) (b := true) (t := 44) rfl (by kernel_rfl) s44) ?_ hR (Below.refl _ _) rfl
        simp [execOp, s47, s50, go_sem]
      · refine Facts.step_value (v := .bool true) rfl (Facts.wanted_some (g := 19) (b := true) (t := 44) rfl (by kernel_rfl) s44) ?_ hR (Below.refl _ _) rfl
        simp [execOp, s47, s50, go_sem]
    · rintro vs x W hR hD hB
      obtain ⟨f19, s44⟩ := hD.slot 19 44 (by kernel_rfl) (by kernel_rfl)
      rw [(f19 : vs 19 = .bool true)] at s44
      obtain ⟨f26, s51⟩ := hD.slot 26 51 (by kernel_rfl) (by kernel_rfl)
      rw [(f26 : vs 26 = .bool true)] at s51
      refine Facts.step_value (v := .bool true) rfl (Facts.wanted_none rfl) ?_ hR (Below.refl _ _) rfl
      simp [execOp, s44, s51, go_sem]
    · rintro vs x W hR hD hB
      obtain ⟨f27, s52⟩ := hD.slot 27 52 (by kernel_rfl) (by kernel_rfl)
      rw [(f27 : vs 27 = .bool true)] at s52
      refine Facts.step_value (v := .bool true) rfl (Facts.wanted_none rfl) ?_ hR (Below.refl _ _) rfl
      simp [execOp, s52, go_sem]
    · rintro vs x W hR hD hB
      obtain ⟨f28, s53⟩ := hD.slot 28 53 (by kernel_rfl) (by kernel_rfl)
      rw [(f28 : vs 28 = .bool true)] at s53
      have b0 := hB.slot 0 (v := (.slice A len c)) (by kernel_rfl) rfl
      refine Facts.step_value (v := (.slice A len c)) rfl (Facts.wanted_some (g := 28) (b := true) (t := 53) rfl (by kernel_rfl) s53) ?_ hR (Below.refl _ _) rfl
      simp [execOp, b0, go_sem]
    · rintro vs x W hR hD hB
      obtain ⟨f28, s53⟩ := hD.slot 28 53 (by kernel_rfl) (by kernel_rfl)
      rw [(f28 : vs 28 = .bool true)] at s53
      obtain ⟨f29, s54⟩ := hD.slot 29 54 (by kernel_rfl) (by kernel_rfl)
      rw [(f29 : vs 29 = (.slice A len c))] at s54
      refine Facts.step_call (f := 11) (args := #[(.slice A len c)]) rfl (Facts.wanted_some (g := 28) (b := true) (t := 53) rfl (by kernel_rfl) s53) ?_ ((hrows W (below_seq hbb hR)).mono ?_)
      · simp [s54, go_sem]
      · rintro e W2 ⟨v9, rfl, hb9, hm9⟩
        exact ⟨_, rfl, below_seq hR hb9, hb9, hm9.sl⟩
    · rintro vs x W hR hD hB
      obtain ⟨f28, s53⟩ := hD.slot 28 53 (by kernel_rfl) (by kernel_rfl)
      rw [(f28 : vs 28 = .bool true)] at s53
      obtain ⟨f30, s55⟩ := hD.slot 30 55 (by kernel_rfl) (by kernel_rfl)
      refine Facts.step_call (f := 20) (args := #[vs 30]) rfl (Facts.wanted_some (g := 28) (b := true) (t := 53) rfl (by kernel_rfl) s53) ?_ ((hck3 _ _ f30).mono ?_)
      · simp [s55, go_sem]
      · rintro e W2 ⟨v9, rfl, ha9, hb9⟩
        exact ⟨_, rfl, below_seq hR hb9, hb9, ha9⟩
    · rintro vs x W hR hD hB
      obtain ⟨f28, s53⟩ := hD.slot 28 53 (by kernel_rfl) (by kernel_rfl)
      rw [(f28 : vs 28 = .bool true)] at s53
      have b0 := hB.slot 0 (v := (.slice A len c)) (by kernel_rfl) rfl
      refine Facts.step_value (v := (.slice A len c)) rfl (Facts.wanted_some (g := 28) (b := true) (t := 53) rfl (by kernel_rfl) s53) ?_ hR (Below.refl _ _) rfl
      simp [execOp, b0, go_sem]
    · rintro vs x W hR hD hB
      obtain ⟨f28, s53⟩ := hD.slot 28 53 (by kernel_rfl) (by kernel_rfl)
      rw [(f28 : vs 28 = .bool true)] at s53
      obtain ⟨f32, s57⟩ := hD.slot 32 57 (by kernel_rfl) (by kernel_rfl)
      rw [(f32 : vs 32 = (.slice A len c))] at s57
      refine Facts.step_call (f := 11) (args := #[(.slice A len c)]) rfl (Facts.wanted_some (g := 28) (b := true) (t := 53) rfl (by kernel_rfl) s53) ?_ ((hrows W (below_seq hbb hR)).mono ?_)
      · simp [s57, go_sem]
      · rintro e W2 ⟨v9, rfl, hb9, hm9⟩
        exact ⟨_, rfl, below_seq hR hb9, hb9, hm9.sl⟩
    · rintro vs x W hR hD hB
      obtain ⟨f28, s53⟩ := hD.slot 28 53 (by kernel_rfl) (by kernel_rfl)
      rw [(f28 : vs 28 = .bool true)] at s53
      obtain ⟨f33, s58⟩ := hD.slot 33 58 (by kernel_rfl) (by kernel_rfl)
      refine Facts.step_call (f := 24) (args := #[vs 33]) rfl (Facts.wanted_some (g := 28) (b := true) (t := 53) rfl (by kernel_rfl) s53) ?_ ((hck4 _ _ f33).mono ?_)
      · simp [s58, go_sem]
      · rintro e W2 ⟨v9, rfl, ha9, hb9⟩
        exact ⟨_, rfl, below_seq hR hb9, hb9, ha9⟩
    · rintro vs x W hR hD hB
      obtain ⟨f28, s53⟩ := hD.slot 28 53 (by kernel_rfl) (by kernel_rfl)
      rw [(f28 : vs 28 = .bool true)] at s53
      obtain ⟨f31, s56⟩ := hD.slot 31 56 (by kernel_rfl) (by kernel_rfl)
      obtain ⟨f34, s59⟩ := hD.slot 34 59 (by kernel_rfl) (by kernel_rfl)
      obtain ⟨bb, e1, e2⟩ := AnsC.one f31 f34
      rw [e1] at s56
      rw [e2] at s59
      clear e1 e2
      cases bb
      · refine Facts.step_value (v := .bool true) rfl (Facts.wanted_some (g := 28) (b := true) (t := 53) rfl (by kernel_rfl) s53) ?_ hR (Below.refl _ _) rfl
        simp [execOp, s56, s59, go_sem]
      · refine Facts.step_value (v := .bool true) rfl (Facts.wanted_some (g := 28) (b := true) (t := 53) rfl (by kernel_rfl) s53) ?_ hR (Below.refl _ _) rfl
        simp [execOp, s56, s59, go_sem]
    · rintro vs x W hR hD hB
      obtain ⟨f28, s53⟩ := hD.slot 28 53 (by kernel_rfl) (by kernel_rfl)
      rw [(f28 : vs 28 = .bool true)] at s53
      obtain ⟨f35, s60⟩ := hD.slot 35 60 (by kernel_rfl) (by kernel_rfl)
      rw [(f35 : vs 35 = .bool true)] at s60
      refine Facts.step_value (v := .bool true) rfl (Facts.wanted_none rfl) ?_ hR (Below.refl _ _) rfl
      simp [execOp, s53, s60, go_sem]
    · rintro vs x W hR hD hB
      obtain ⟨f36, s61⟩ := hD.slot 36 61 (by kernel_rfl) (by kernel_rfl)
      rw [(f36 : vs 36 = .bool true)] at s61
      refine Facts.step_value (v := .bool true) rfl (Facts.wanted_none rfl) ?_ hR (Below.refl _ _) rfl
      simp [execOp, s61, go_sem]
    · rintro vs x W hR hD hB
      obtain ⟨f37, s62⟩ := hD.slot 37 62 (by kernel_rfl) (by kernel_rfl)
      rw [(f37 : vs 37 = .bool true)] at s62
      have b5 := hB.slot 5 (v := .pointer (some ⟨w.heap.size, 0, none⟩)) (by kernel_rfl) rfl
      refine Facts.step_value (v := .pointer (some ⟨w.heap.size, 2, none⟩)) rfl (Facts.wanted_some (g := 37) (b := true) (t := 62) rfl (by kernel_rfl) s62) ?_ hR (Below.refl _ _) rfl
      simp [execOp, b5, go_sem]
    · rintro vs x W hR hD hB
      obtain ⟨f37, s62⟩ := hD.slot 37 62 (by kernel_rfl) (by kernel_rfl)
      rw [(f37 : vs 37 = .bool true)] at s62
      obtain ⟨f38, s63⟩ := hD.slot 38 63 (by kernel_rfl) (by kernel_rfl)
      rw [(f38 : vs 38 = .pointer (some ⟨w.heap.size, 2, none⟩))] at s63
      have hc := (hR.cell (p := ⟨w.heap.size, 2, none⟩) hp2).trans c2
      refine Facts.step_value (v := .int .i64 q2) rfl (Facts.wanted_some (g := 37) (b := true) (t := 62) rfl (by kernel_rfl) s62) ?_ hR (Below.refl _ _) rfl
      simp [execOp, s63, go_sem, hc]
    · rintro vs x W hR hD hB
      obtain ⟨f37, s62⟩ := hD.slot 37 62 (by kernel_rfl) (by kernel_rfl)
      rw [(f37 : vs 37 = .bool true)] at s62
      obtain ⟨f39, s64⟩ := hD.slot 39 64 (by kernel_rfl) (by kernel_rfl)
      rw [(f39 : vs 39 = .int .i64 q2)] at s64
      refine Facts.step_call (f := 17) (args := #[.int .i64 q2]) rfl (Facts.wanted_some (g := 37) (b := true) (t := 62) rfl (by kernel_rfl) s62) ?_ ((hmost W).mono ?_)
      · simp [s64, go_sem]
      · rintro e W2 ⟨rfl, hw9⟩
        subst hw9
        exact ⟨_, rfl, hR, Below.refl _ _, rfl⟩
    · rintro vs x W hR hD hB
      obtain ⟨f37, s62⟩ := hD.slot 37 62 (by kernel_rfl) (by kernel_rfl)
      rw [(f37 : vs 37 = .bool true)] at s62
      have b5 := hB.slot 5 (v := .pointer (some ⟨w.heap.size, 0, none⟩)) (by kernel_rfl) rfl
      refine Facts.step_value (v := .pointer (some ⟨w.heap.size, 2, none⟩)) rfl (Facts.wanted_some (g := 37) (b := true) (t := 62) rfl (by kernel_rfl) s62) ?_ hR (Below.refl _ _) rfl
      simp [execOp, b5, go_sem]
    · rintro vs x W hR hD hB
      obtain ⟨f37, s62⟩ := hD.slot 37 62 (by kernel_rfl) (by kernel_rfl)
      rw [(f37 : vs 37 = .bool true)] at s62
      obtain ⟨f41, s66⟩ := hD.slot 41 66 (by kernel_rfl) (by kernel_rfl)
      rw [(f41 : vs 41 = .pointer (some ⟨w.heap.size, 2, none⟩))] at s66
      have hc := (hR.cell (p := ⟨w.heap.size, 2, none⟩) hp2).trans c2
      refine Facts.step_value (v := .int .i64 q2) rfl (Facts.wanted_some (g := 37) (b := true) (t := 62) rfl (by kernel_rfl) s62) ?_ hR (Below.refl _ _) rfl
      simp [execOp, s66, go_sem, hc]
    · rintro vs x W hR hD hB
      obtain ⟨f37, s62⟩ := hD.slot 37 62 (by kernel_rfl) (by kernel_rfl)
      rw [(f37 : vs 37 = .bool true)] at s62
      obtain ⟨f42, s67⟩ := hD.slot 42 67 (by kernel_rfl) (by kernel_rfl)
      rw [(f42 : vs 42 = .int .i64 q2)] at s67
      refine Facts.step_call (f := 25) (args := #[.int .i64 q2]) rfl (Facts.wanted_some (g := 37) (b := true) (t := 62) rfl (by kernel_rfl) s62) ?_ ((hrmost W).mono ?_)
      · simp [s67, go_sem]
      · rintro e W2 ⟨rfl, hw9⟩
        subst hw9
        exact ⟨_, rfl, hR, Below.refl _ _, rfl⟩
    · rintro vs x W hR hD hB
      obtain ⟨f37, s62⟩ := hD.slot 37 62 (by kernel_rfl) (by kernel_rfl)
      rw [(f37 : vs 37 = .bool true)] at s62
      obtain ⟨f40, s65⟩ := hD.slot 40 65 (by kernel_rfl) (by kernel_rfl)
      rw [(f40 : vs 40 = .int .i64 mo)] at s65
      obtain ⟨f43, s68⟩ := hD.slot 43 68 (by kernel_rfl) (by kernel_rfl)
      rw [(f43 : vs 43 = .int .i64 mo)] at s68
      refine Facts.step_value (v := .bool true) rfl (Facts.wanted_some (g := 37) (b := true) (t := 62) rfl (by kernel_rfl) s62) ?_ hR (Below.refl _ _) rfl
      simp [execOp, s65, s68, go_sem]
    · rintro vs x W hR hD hB
      obtain ⟨f37, s62⟩ := hD.slot 37 62 (by kernel_rfl) (by kernel_rfl)
      rw [(f37 : vs 37 = .bool true)] at s62
      obtain ⟨f44, s69⟩ := hD.slot 44 69 (by kernel_rfl) (by kernel_rfl)
      rw [(f44 : vs 44 = .bool true)] at s69
      refine Facts.step_value (v := .bool true) rfl (Facts.wanted_none rfl) ?_ hR (Below.refl _ _) rfl
      simp [execOp, s62, s69, go_sem]
    · rintro vs x W hR hD hB
      obtain ⟨f45, s70⟩ := hD.slot 45 70 (by kernel_rfl) (by kernel_rfl)
      rw [(f45 : vs 45 = .bool true)] at s70
      refine Facts.step_value (v := .bool true) rfl (Facts.wanted_none rfl) ?_ hR (Below.refl _ _) rfl
      simp [execOp, s70, go_sem]
    · rintro vs W hW hF
      have h46 : vs 46 = .bool true := hF 46 (by decide)
      clear hF
      simp only [Facts.frameEnd, List.zipIdx, List.foldl, Act.put, h46, List.setIfInBounds_toArray, List.set_cons_succ, List.set_cons_zero, Nat.reduceAdd]
      go_wp2_with fail
      go_ret
      exact ⟨rfl, below_seq hbb hW⟩
end Tells
end Go.Proofs.Ytpfogfglkknmoaa
