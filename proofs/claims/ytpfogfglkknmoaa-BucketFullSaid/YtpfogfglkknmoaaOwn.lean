/- Rows of the call's own: cloned, swept. -/
import Derived.Test.YtpfogfglkknmoaaFind
import Derived.Deep.AppendLies
import Derived.Laws.OwnMore
import Derived.Laws.IdiomCopy
import Derived.Lib.SliceRun
import Derived.Lib.LazyBuf
namespace Go.Proofs.Ytpfogfglkknmoaa
open Go.RowKit

def cellsOf (l : List Bk) : List Value := l.flatMap Bk.cells
theorem cellsOf_length (l : List Bk) : (cellsOf l).length = l.length * 3 := by
  induction l with
  | nil => rfl
  | cons b l ih => unfold cellsOf at ih ⊢; rw [List.flatMap_cons, List.length_append, ih]; simp [Bk.cells]; omega
theorem cellsOf_append (l m : List Bk) : cellsOf (l ++ m) = cellsOf l ++ cellsOf m := by unfold cellsOf; simp
theorem cellsOf_at (l : List Bk) (i : Nat) (hi : i < l.length) (j : Nat) (hj : j < 3) : (cellsOf l)[i * 3 + j]? = (l[i]'hi).cells[j]? := by
  induction l generalizing i with
  | nil => simp at hi
  | cons b l ih =>
    unfold cellsOf at ih ⊢
    rw [List.flatMap_cons]
    have hb : b.cells.length = 3 := rfl
    match i with
    | 0 => rw [List.getElem?_append_left (by omega)]; simp
    | i + 1 =>
      rw [List.getElem?_append_right (by omega), show (i + 1) * 3 + j - b.cells.length = i * 3 + j from by omega]
      exact ih i (by simpa using hi)
theorem cellsOf_one (l : List Bk) : ∀ u ∈ cellsOf l, u.oneCell' = true := by
  intro u hu
  unfold cellsOf at hu
  obtain ⟨b, _, hb⟩ := List.mem_flatMap.1 hu
  simp only [Bk.cells, List.mem_cons, List.not_mem_nil, or_false] at hb
  rcases hb with rfl | rfl | rfl <;> rfl

/-- a bucket's three cells -/
def At (w : World) (g o : Nat) (b : Bk) : Prop := w.cell? ⟨g, o, none⟩ = some (.string b.key) ∧ w.cell? ⟨g, o + 1, none⟩ = some (.int .i64 b.left) ∧ w.cell? ⟨g, o + 2, none⟩ = some (.int .i64 b.at_)
theorem At.cell {w : World} {g o : Nat} {b : Bk} (h : At w g o b) (j : Nat) (u : Value) (hu : b.cells[j]? = some u) : w.cell? ⟨g, o + j, none⟩ = some u := by
  match j, hu with
  | 0, hu => simp [Bk.cells] at hu; subst hu; exact h.1
  | 1, hu => simp [Bk.cells] at hu; subst hu; exact h.2.1
  | 2, hu => simp [Bk.cells] at hu; subst hu; exact h.2.2
  | j + 3, hu => simp [Bk.cells] at hu
/-- a row whose every cell may be written, at the head of its block; the blocks ahead of B are others -/
def Owned (w : World) (B g : Nat) (l : List Bk) : Prop :=
  B ≤ g ∧ g < w.heap.size ∧ (∀ i (h : i < l.length), At w g (i * 3) (l[i]'h)) ∧ ∀ t, t < l.length * 3 → w.frozen? ⟨g, t, none⟩ = false
theorem Owned.row {w : World} {B g : Nat} {l : List Bk} (h : Owned w B g l) : Row w (some ⟨g, 0, none⟩) l := by
  intro _
  refine ⟨g, 0, rfl, h.2.1, fun i hi => ?_⟩
  obtain ⟨a, b, c⟩ := h.2.2.1 i hi
  simp only [Nat.zero_add]
  exact ⟨a, b, c⟩
theorem frozen_below {w w' : World} {B : Nat} (h : Below B w w') {p : Addr} (hp : p.block < B) : w'.frozen? p = w.frozen? p := World.frozen?_of_block (h.block p.block hp)
theorem Owned.below {w w' : World} {B g : Nat} {l : List Bk} (h : Owned w B g l) (hb : Below w.heap.size w w') : Owned w' B g l := by
  obtain ⟨h1, h2, h3, h4⟩ := h
  refine ⟨h1, Nat.lt_of_lt_of_le h2 hb.size, fun i hi => ?_, fun t ht => (frozen_below hb h2).trans (h4 t ht)⟩
  obtain ⟨a, b, c⟩ := h3 i hi
  exact ⟨(hb.cell (by exact h2)).trans a, (hb.cell (by exact h2)).trans b, (hb.cell (by exact h2)).trans c⟩
/-- a row made by append -/
theorem owned_of_row {w : World} {base : Nat} {v : Value} {l : List Bk} (h : w.ownsRow base 54 3 v l.length (cellsOf l)) :
    (v = .slice none 0 0 ∧ l = []) ∨ ∃ g c, v = .slice (some ⟨g, 0, none⟩) l.length c ∧ l.length ≤ c ∧ c ≤ maxLen ∧ Owned w base g l := by
  rcases h.2 with ⟨hv, hn⟩ | ⟨g, cap, cur, hv, hbg, hh, hnc, hcm, hcs, htake⟩
  · exact Or.inl ⟨hv, List.eq_nil_of_length_eq_zero hn⟩
  · right
    have hlt : g < w.heap.size := by
      rcases Nat.lt_or_ge g w.heap.size with hlt | hge
      · exact hlt
      · rw [Array.getElem?_eq_none hge] at hh; cases hh
    subst hv
    refine ⟨g, cap, rfl, hnc, hcm, hbg, hlt, ?_, ?_⟩
    · intro i hi
      have hc : ∀ j, j < 3 → w.cell? ⟨g, i * 3 + j, none⟩ = (l[i]'hi).cells[j]? := by
        intro j hj
        rw [h.cellAt (i * 3 + j) (by omega), cellsOf_at l i hi j hj]
      exact ⟨hc 0 (by omega), hc 1 (by omega), hc 2 (by omega)⟩
    · intro t _
      simp [World.frozen?, hh]

theorem info54 : (Try.prog.info? 54).map (fun i => (i.zero, i.size, i.bytes)) = some (some (.agg #[.string ⟨#[]⟩, .int .i64 0, .int .i64 0]), 3, 32) := by kernel_rfl
theorem info_parts {t : TypeId} {z : Value} {s b : Nat} (h : (Try.prog.info? t).map (fun i => (i.zero, i.size, i.bytes)) = some (some z, s, b)) : ∃ i0, Try.prog.info? t = some i0 ∧ i0.zero = some z ∧ i0.size = s ∧ i0.bytes = b := by
  cases hi : Try.prog.info? t with
  | none => rw [hi] at h; cases h
  | some i0 =>
    rw [hi] at h
    simp only [Option.map_some, Option.some.injEq, Prod.mk.injEq] at h
    exact ⟨i0, rfl, h.1, h.2.1, h.2.2⟩

theorem Row.news {w : World} {ad : Addr} {l : List Bk} (h : Row w (some ad) l) : ∀ j u, (cellsOf l)[j]? = some u → w.cell? (ad.add j) = some u := by
  intro j u hu
  have hj : j < l.length * 3 := by rw [← cellsOf_length]; exact (List.getElem?_eq_some_iff.1 hu).1
  have hi : j / 3 < l.length := by omega
  obtain ⟨g, o, e, _, hc⟩ := h.at_ _ hi
  cases e
  rw [show j = j / 3 * 3 + j % 3 from by omega, cellsOf_at l (j / 3) hi (j % 3) (by omega)] at hu
  have hA : At w g (o + j / 3 * 3) (l[j / 3]'hi) := hc
  rw [Addr.add_lit, show o + j = o + j / 3 * 3 + j % 3 from by omega]
  exact hA.cell _ _ hu

set_option maxHeartbeats 2000000 in
theorem clone_any (A : Option Addr) (c : Nat) (l : List Bk) (hlen : l.length ≤ 1000) (w : World) (hr : Row w A l) :
    Calls Try.prog 26 #[.slice A l.length c] w fun e w' => ∃ v', e = .returned v' ∧ Below w.heap.size w w' ∧
      ((v' = .slice none 0 0 ∧ l = []) ∨ ∃ g c', v' = .slice (some ⟨g, 0, none⟩) l.length c' ∧ l.length ≤ c' ∧ c' ≤ maxLen ∧ Owned w' w.heap.size g l) := by
  obtain ⟨i0, hi, hz0, hz1, hz2⟩ := info_parts info54
  have q22 : ∀ (w : World) (a : Option Addr) (n c n' c' : Nat), (binOp .eql 25 (.slice a n c) (.slice none n' c')).run Try.prog w = .ok (.bool a.isNone) w := fun w a n c n' c' => Lib.run_eql_slice_nil w _ _ a n c n' c' Try.underlying25
  cases A with
  | none =>
    have hl : l = [] := by
      cases l with
      | nil => rfl
      | cons b l => obtain ⟨_, _, e, _⟩ := hr (by simp); cases e
    subst hl
    go_enter Try.func26, Try.ntmps26
    go_wp2_with fail
    go_ret
    exact ⟨_, rfl, Below.refl _ _, Or.inl (by simp)⟩
  | some ad =>
    have hnews := Lib.hid hr.news
    clear hr
    go_enter Try.func26, Try.ntmps26
    go_wp2_with (at_builtin; refine wpList_append_own _ rfl _ _ 25 rfl w.heap.size 54 i0 _ 3 32 Try.underlying25 hi hz0 hz1 hz2 rfl (by omega) _ 0 [] rfl (World.ownsRow_made w #[] 0 (Nat.le_refl _) (Nat.zero_le _) (by simp)) ad l.length c (cellsOf l) rfl (cellsOf_length l) ?qc2 (cellsOf_one l) (by unfold maxLen; omega) (by omega) (by simp) ?_)
    case qc2 => intro j u hj; exact Lib.cell?_alloc_some _ (hnews.out j u hj)
    intro v' w1 hown hgrow _
    have hb : Below w.heap.size w w1 := ((Below.refl _ _).alloc (Nat.le_refl _) _).grown hgrow (by simp) (by intro g hg; simp [Value.ownBlock] at hg; omega)
    go_wp2_with fail
    go_ret
    exact ⟨_, rfl, hb, owned_of_row hown⟩

/-! ### sweeping -/
def full (b : Bk) (now : Int) : Bool := leftP b now == 4
set_option maxHeartbeats 1000000 in
theorem pred_any (b : Bk) (hb : b.Fits) (now : Int) (hn : Time now) (p : Nat) (w : World) (hp : p < w.heap.size) (hc : w.cell? ⟨p, 0, none⟩ = some (.int .i64 now)) :
    Calls Try.prog 31 #[b.val, .pointer (some ⟨p, 0, none⟩)] w fun e w' => e = .returned (.bool (full b now)) ∧ Below w.heap.size w w' := by
  have hcall : ∀ W : World, Calls Try.prog 32 #[.agg #[.string b.key, .int .i64 b.left, .int .i64 b.at_], .int .i64 now] W fun e w' => e = .returned (.int .i64 (leftP b now)) ∧ Below W.heap.size W w' := fun W => left_any b hb now hn W
  unfold full
  generalize leftP b now = r at hcall ⊢
  unfold Bk.val
  have hne : p ≠ w.heap.size := by omega
  go_enter Try.func31, Try.ntmps31
  go_wp2_with (go_at_call 32; refine (hcall _).mono ?_; rintro e w' ⟨rfl, hb1⟩)
  go_ret
  exact ⟨rfl, ((Below.refl w.heap.size w).alloc (Nat.le_refl _) _).trans (hb1.mono (by simp))⟩

set_option maxHeartbeats 2000000 in
theorem index_any (A : Option Addr) (c : Nat) (l : List Bk) (hf : Fit l) (hlen : l.length ≤ 1000) (now : Int) (hn : Time now) (p : Nat) (w : World) (hp : p < w.heap.size) (hpc : w.cell? ⟨p, 0, none⟩ = some (.int .i64 now)) (hr : Row w A l) :
    Calls Try.prog 40 #[.slice A l.length c, .func (.func 31) #[] #[.pointer (some ⟨p, 0, none⟩)]] w fun e w' => ∃ r : Int, e = .returned (.int .i64 r) ∧ Below w.heap.size w w' ∧
      ((r = -1 ∧ ∀ j (h : j < l.length), full (l[j]'h) now = false) ∨ ∃ k, ∃ h : k < l.length, r = (k : Int) ∧ full (l[k]'h) now = true ∧ ∀ j (h2 : j < k), full (l[j]'(by omega)) now = false) := by
  have HR := Lib.hid hr
  have HF := Lib.hid hf
  clear hr hf
  go_enter Try.func40, Try.ntmps40
  go_wp2_with fail
  go_loopw [5, 8] (fun _ v8 wr => ∃ k : Nat, k ≤ l.length ∧ v8 = .int .i64 (k : Int) ∧ Below w.heap.size w wr ∧ Hid (∀ j (_ : j < k) (h : j < l.length), full (l[j]'h) now = false))
    (fun _ v8 _ => l.length - (intOf v8).toNat)
  case atStart => exact ⟨0, by omega, rfl, Below.refl _ _, Lib.hid fun j h => absurd h (by omega)⟩
  case round =>
    obtain ⟨k, hk, rfl, hb, HI⟩ := hrel
    by_cases hlt : k < l.length
    · obtain ⟨g, o, rfl, hg, c0, c1, c2⟩ := (HR.out.below hb).at_ k hlt
      have hp' : p < wr.heap.size := Nat.lt_of_lt_of_le hp hb.size
      have hpc' := (hb.cell (p := ⟨p, 0, none⟩) hp).trans hpc
      have hcall := pred_any (l[k]'hlt) (HF.out _ (List.getElem_mem hlt)) now hn p wr hp' hpc'
      unfold Bk.val at hcall
      have hkl : (k : Int) < (l.length : Int) := by omega
      by_cases hq : full (l[k]'hlt) now = true
      · have HN : Hid (∃ k', ∃ h : k' < l.length, (k : Int) = (k' : Int) ∧ full (l[k']'h) now = true ∧ ∀ j (h2 : j < k'), full (l[j]'(by omega)) now = false) := Lib.hid ⟨k, hlt, rfl, hq, fun j hj => HI.out j hj _⟩
        rw [hq] at hcall
        clear hq hpc hpc'
        generalize l[k]'hlt = b at c0 c1 c2 hcall
        go_wp2_with (go_at_call 31; refine hcall.mono ?_; rintro e w' ⟨rfl, hb1⟩)
        go_ret
        exact ⟨_, rfl, below_seq hb hb1, Or.inr HN.out⟩
      · have hqf : full (l[k]'hlt) now = false := by simpa using hq
        have HN : Hid (∀ j (_ : j < k + 1) (h : j < l.length), full (l[j]'h) now = false) := Lib.hid fun j hj h => by
          by_cases e : j = k
          · subst e; exact hqf
          · exact HI.out j (by omega) h
        rw [hqf] at hcall
        clear hq hqf hpc hpc'
        generalize l[k]'hlt = b at c0 c1 c2 hcall
        go_wp2_with (go_at_call 31; refine hcall.mono ?_; rintro e w' ⟨rfl, hb1⟩)
        go_roundw
        case rel => exact ⟨k + 1, by omega, by go_num, below_seq hb hb1, HN⟩
        case measure => simp [intOf]; omega
    · obtain rfl : k = l.length := by omega
      have hll : ¬ (l.length : Int) < (l.length : Int) := by omega
      go_wp2_with fail
      go_ret
      exact ⟨_, rfl, hb, Or.inl ⟨rfl, fun j h => HI.out j h h⟩⟩
end Go.Proofs.Ytpfogfglkknmoaa
