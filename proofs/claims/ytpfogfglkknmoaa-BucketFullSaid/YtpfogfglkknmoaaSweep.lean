/- Sweep. -/
import Derived.Test.YtpfogfglkknmoaaDel
namespace Go.Proofs.Ytpfogfglkknmoaa
open Go.RowKit

/-- a slice that a call hands back: nil, or a row of its own -/
def Made (B : Nat) (v : Value) (l : List Bk) (w : World) : Prop :=
  (v = .slice none 0 0 ∧ l = []) ∨ ∃ g c, v = .slice (some ⟨g, 0, none⟩) l.length c ∧ l.length ≤ c ∧ c ≤ maxLen ∧ Owned w B g l
theorem Made.below {B : Nat} {v : Value} {l : List Bk} {w w' : World} (h : Made B v l w) (hb : Below w.heap.size w w') : Made B v l w' := by
  rcases h with h | ⟨g, c, h1, h2, h3, h4⟩
  · exact Or.inl h
  · exact Or.inr ⟨g, c, h1, h2, h3, h4.below hb⟩
/-- any slice of buckets: the slice, where it lies, its capacity -/
def Sl (v : Value) (l : List Bk) (w : World) : Prop := ∃ A c, v = .slice A l.length c ∧ l.length ≤ c ∧ c ≤ maxLen ∧ (A = none → c = 0) ∧ Row w A l
theorem Made.sl {B : Nat} {v : Value} {l : List Bk} {w : World} (h : Made B v l w) : Sl v l w := by
  rcases h with ⟨h1, h2⟩ | ⟨g, c, h1, h2, h3, h4⟩
  · subst h2
    exact ⟨none, 0, h1, Nat.le_refl _, by unfold maxLen; omega, fun _ => rfl, fun h => absurd rfl h⟩
  · exact ⟨_, c, h1, h2, h3, by simp, h4.row⟩
theorem Sl.below {v : Value} {l : List Bk} {w w' : World} (h : Sl v l w) (hb : Below w.heap.size w w') : Sl v l w' := by
  obtain ⟨A, c, h1, h2, h3, h4, h5⟩ := h
  exact ⟨A, c, h1, h2, h3, h4, h5.below hb⟩
theorem Made.mono {B B' : Nat} {v : Value} {l : List Bk} {w : World} (h : Made B v l w) (hB : B' ≤ B) : Made B' v l w := by
  rcases h with h | ⟨g, c, h1, h2, h3, h4⟩
  · exact Or.inl h
  · exact Or.inr ⟨g, c, h1, h2, h3, Nat.le_trans hB h4.1, h4.2⟩

theorem Fit.sweep {l : List Bk} (h : Fit l) (now : Int) : Fit (sweepP l now) := fun b hb => h b (sweepP_mem.1 hb).1

set_option maxHeartbeats 2000000 in
theorem delete_nil (now : Int) (p : Nat) (hn : Time now) (w : World) (hp : p < w.heap.size) (hpc : w.cell? ⟨p, 0, none⟩ = some (.int .i64 now)) :
    Calls Try.prog 30 #[.slice none 0 0, .func (.func 31) #[] #[.pointer (some ⟨p, 0, none⟩)]] w fun e w' => e = .returned (.slice none 0 0) ∧ Below w.heap.size w w' := by
  have hidx := index_any none 0 [] (fun b hb => by cases hb) (by simp) now hn p w hp hpc (fun h => absurd rfl h)
  go_enter Try.func30, Try.ntmps30
  go_wp2_with (go_at_call 40; refine hidx.mono ?_; rintro e w1 ⟨r, rfl, hb1, hr⟩; clear hidx; rcases hr with ⟨rfl, hall⟩ | ⟨k0, hk0, rfl, ht, hall⟩)
  · go_ret
    exact ⟨rfl, hb1⟩

set_option maxHeartbeats 2000000 in
theorem Sweep_any (l : List Bk) (hf : Fit l) (hlen : l.length ≤ 1000) (now : Int) (hn : Time now) (v : Value) (w : World) (hs : Sl v l w) :
    Calls Try.prog 14 #[v, .int .i64 now] w fun e w' => ∃ v', e = .returned v' ∧ Below w.heap.size w w' ∧ Made w.heap.size v' (sweepP l now) w' := by
  obtain ⟨A, c, rfl, hc, hm, -, hr⟩ := hs
  have HR := Lib.hid hr
  clear hr
  go_enter Try.func14, Try.ntmps14
  go_wp2_with fail
  have hb0 : Below w.heap.size w (w.alloc (.cells #[.int .i64 now] 2)) := (Below.refl _ _).alloc (Nat.le_refl _) _
  have hr0 := HR.out.below hb0
  go_at_call 26
  refine (clone_any A c l hlen _ hr0).mono ?_
  rintro e w1 ⟨v1, rfl, hb1, hv⟩
  have hpc := (hb1.cell (p := ⟨w.heap.size, 0, none⟩) (by simp)).trans (show (w.alloc (.cells #[.int .i64 now] 2)).cell? ⟨w.heap.size, 0, none⟩ = some (.int .i64 now) by simp)
  have hp1 : w.heap.size < w1.heap.size := Nat.lt_of_lt_of_le (by simp) hb1.size
  have hbb : Below w.heap.size w w1 := hb0.trans (hb1.mono (by simp))
  rcases hv with ⟨rfl, rfl⟩ | ⟨g, c', rfl, hc', hm', ho⟩
  · go_wp2_with (go_at_call 30; refine (delete_nil now w.heap.size hn _ hp1 hpc).mono ?_; rintro e w2 ⟨rfl, hb2⟩)
    go_ret
    exact ⟨_, rfl, below_seq hbb hb2, Or.inl ⟨rfl, rfl⟩⟩
  · have hgp : w.heap.size < g := Nat.lt_of_lt_of_le (by simp) ho.1
    have ho' : Owned w1 w.heap.size g l := ⟨by omega, ho.2⟩
    go_wp2_with (go_at_call 30; refine (delete_any l hf hlen now hn w.heap.size g c' w.heap.size hc' _ hp1 (by omega) hpc (by omega) ho').mono ?_; rintro e w2 ⟨rfl, hb2, ho2⟩)
    go_ret
    refine ⟨_, rfl, hbb.trans hb2, Or.inr ⟨g, c', rfl, ?_, hm', ho2⟩⟩
    exact Nat.le_trans (sweepP_length l now) hc'
end Go.Proofs.Ytpfogfglkknmoaa
