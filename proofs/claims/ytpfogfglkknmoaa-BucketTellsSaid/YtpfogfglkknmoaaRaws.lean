/- Arguments that are slices of buckets as they stand. -/
import Derived.Test.YtpfogfglkknmoaaPairs
import Derived.Test.YtpfogfglkknmoaaFew
import Derived.Deep.Strs
namespace Go.Proofs.Ytpfogfglkknmoaa
open Go.ChangeShapes Go.WideShapes Go.ChangeAt Go.RowKit Go.Deep

section
variable {H : Type} {enc : TypeId × Value → H} {P : Program}
theorem open_raws {w : World} {spare : Nat → Bool} {held : Bool} {r : Reach} {b0 base : Nat} {t e : TypeId} {f0 f1 f2 : Field} {v : Value} {d : DataW H} {p : List MemPlace}
    (ht : P.underlying t = some (.slice e)) (he : P.underlying e = some (.struct #[f0, f1, f2])) (hi0 : P.underlying f0.type = some .string) (hi1 : P.underlying f1.type = some (.int .i64)) (hi2 : P.underlying f2.type = some (.int .i64))
    (o0 : f0.offset = 0) (o1 : f1.offset = 1) (o2 : f2.offset = 2)
    (hc0 : P.cellsOf f0.type = 1) (hc1 : P.cellsOf f1.type = 1) (hc2 : P.cellsOf f2.type = 1) (hce : P.cellsOf e = 3)
    (hv : Value.okWide P w r b0 t v) (h : DataW.Trod enc P w base spare held t v d p) :
    ∃ (A : Option Addr) (len c : Nat) (f : Nat → Bk), v = .slice A len c ∧ len ≤ maxLen ∧ Raw w A len f := by
  obtain ⟨a, len, cap, rfl⟩ := okWide_slice ht hv
  obtain ⟨fuel, hf⟩ := h
  rcases open_slice ht hf with ⟨h0, _⟩ | ⟨a', len', cap', m, n, D, Pl, h0, hb, hl, hm, hmm, _, hel⟩
  · simp only [Value.cells, List.cons.injEq, and_true, Value.slice.injEq] at h0
    obtain ⟨rfl, rfl, rfl⟩ := h0
    exact ⟨none, 0, 0, fun _ => ⟨⟨#[]⟩, 0, 0⟩, rfl, Nat.zero_le _, fun i hi => absurd hi (by omega)⟩
  · simp only [Value.cells, List.cons.injEq, and_true, Value.slice.injEq] at h0
    obtain ⟨rfl, rfl, rfl⟩ := h0
    have key : ∀ k, k < len → ∃ b : Bk, b.key.size ≤ maxLen ∧ w.cell? (a'.add (k * 3)) = some (.string b.key) ∧ w.cell? ((a'.add (k * 3)).add 1) = some (.int .i64 b.left) ∧ w.cell? ((a'.add (k * 3)).add 2) = some (.int .i64 b.at_) := by
      intro k hk
      have hkm : k < m := by rw [hmm]; split <;> omega
      obtain ⟨cs', hc, htr⟩ := hel k hkm
      rw [hce] at hc
      obtain ⟨_, hcl, hat⟩ := World.cells?_some hc
      obtain ⟨y0, y1, y2, n', _, _, t0, t1, t2⟩ := trod_struct3 he htr
      match cs', hcl with
      | [u0, u1, u2], _ =>
        rw [o0, hc0] at t0
        rw [o1, hc1] at t1
        rw [o2, hc2] at t2
        simp only [List.drop_zero, List.take_succ_cons, List.take_zero, List.drop_succ_cons] at t0 t1 t2
        obtain ⟨s, e0, _, hs⟩ := DataW.trod_string hi0 t0
        obtain ⟨z1, e1, _, _⟩ := DataW.trod_int hi1 t1
        obtain ⟨z2, e2, _, _⟩ := DataW.trod_int hi2 t2
        simp only [List.cons.injEq, and_true] at e0 e1 e2
        subst e0 e1 e2
        have g0 := hat 0 (by omega)
        have g1 := hat 1 (by omega)
        have g2 := hat 2 (by omega)
        exact ⟨⟨s, z1, z2⟩, hs, by simpa [Addr.add] using g0, g1, g2⟩
    refine ⟨some a', len, cap, fun k => if hk : k < len then (key k hk).choose else ⟨⟨#[]⟩, 0, 0⟩, rfl, by omega, fun k hk => ?_⟩
    have hs := (key k hk).choose_spec
    simp only [hk, dif_pos]
    refine ⟨hs.1, a', rfl, ?_, hs.2⟩
    have := cell_lt hs.2.1
    rwa [block_of_add] at this
end
end Go.Proofs.Ytpfogfglkknmoaa
