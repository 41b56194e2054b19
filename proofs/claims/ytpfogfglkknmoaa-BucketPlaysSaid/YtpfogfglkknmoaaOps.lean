/- Arguments that are slices of structs of two numbers. -/
import Derived.Test.YtpfogfglkknmoaaPairs
import Derived.Deep.SlicePairs
namespace Go.Proofs.Ytpfogfglkknmoaa
open Go.ChangeShapes Go.WideShapes Go.ChangeAt Go.RowKit Go.Deep

section
variable {H : Type} {enc : TypeId × Value → H} {P : Program}
theorem open_ops {w : World} {spare : Nat → Bool} {held : Bool} {r : Reach} {b0 base : Nat} {t e : TypeId} {f0 f1 : Field} {v : Value} {d : DataW H} {p : List MemPlace}
    (ht : P.underlying t = some (.slice e)) (he : P.underlying e = some (.struct #[f0, f1])) (hi0 : P.underlying f0.type = some (.int .i64)) (hi1 : P.underlying f1.type = some (.int .i64)) (o0 : f0.offset = 0) (o1 : f1.offset = 1)
    (hc0 : P.cellsOf f0.type = 1) (hc1 : P.cellsOf f1.type = 1) (hce : P.cellsOf e = 2)
    (hv : Value.okWide P w r b0 t v) (h : DataW.Trod enc P w base spare held t v d p) :
    ∃ (A : Option Addr) (len c : Nat) (f : Nat → Int × Int), v = .slice A len c ∧ len ≤ c ∧ len ≤ maxLen ∧ Src w A len f := by
  obtain ⟨a, len, cap, rfl⟩ := okWide_slice ht hv
  obtain ⟨fuel, hf⟩ := h
  rcases open_slice_pairs ht he hce o0 o1 hc0 hc1 hf with ⟨h0, _⟩ | ⟨a', len', cap', m, n, V0, V1, D0, D1, P0, P1, h0, hb, hl, hm, hmm, _, hel⟩
  · simp only [Value.cells, List.cons.injEq, and_true, Value.slice.injEq] at h0
    obtain ⟨rfl, rfl, rfl⟩ := h0
    exact ⟨none, 0, 0, fun _ => (0, 0), rfl, Nat.le_refl _, Nat.zero_le _, fun i hi => absurd hi (by omega)⟩
  · simp only [Value.cells, List.cons.injEq, and_true, Value.slice.injEq] at h0
    obtain ⟨rfl, rfl, rfl⟩ := h0
    have key : ∀ k, k < len → ∃ z : Int × Int, w.cell? (a'.add (k * 2)) = some (.int .i64 z.1) ∧ w.cell? ((a'.add (k * 2)).add 1) = some (.int .i64 z.2) := by
      intro k hk
      have hkm : k < m := by rw [hmm]; split <;> omega
      obtain ⟨h0, h1, t0, t1⟩ := hel k hkm
      obtain ⟨z0, e0, _, _⟩ := DataW.trod_int hi0 t0
      obtain ⟨z1, e1, _, _⟩ := DataW.trod_int hi1 t1
      simp only [List.cons.injEq, and_true] at e0 e1
      rw [e0] at h0
      rw [e1, ← Go.Deep.add_add] at h1
      exact ⟨(z0, z1), h0, h1⟩
    refine ⟨some a', len, cap, fun k => if hk : k < len then (key k hk).choose else (0, 0), rfl, hl, by omega, fun k hk => ?_⟩
    have hs := (key k hk).choose_spec
    simp only [hk, dif_pos]
    refine ⟨a', rfl, ?_, hs.1, hs.2⟩
    have := cell_lt hs.1
    rwa [block_of_add] at this
end
end Go.Proofs.Ytpfogfglkknmoaa
