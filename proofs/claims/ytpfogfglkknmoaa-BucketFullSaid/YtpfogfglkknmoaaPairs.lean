/- Arguments that are slices of pairs of numbers. -/
import Derived.Test.YtpfogfglkknmoaaLaw
import Derived.Test.YtpfogfglkknmoaaRows2
import Derived.Deep.Slices
namespace Go.Proofs.Ytpfogfglkknmoaa
open Go.ChangeShapes Go.WideShapes Go.ChangeAt Go.RowKit Go.Deep

section
variable {H : Type} {enc : TypeId × Value → H} {P : Program}
theorem cell_lt {w : World} {p : Addr} {v : Value} (h : w.cell? p = some v) : p.block < w.heap.size := by
  rcases Nat.lt_or_ge p.block w.heap.size with hlt | hge
  · exact hlt
  · unfold World.cell? at h
    rw [Array.getElem?_eq_none hge] at h
    cases h
theorem open_pairs {w : World} {spare : Nat → Bool} {held : Bool} {r : Reach} {b0 base : Nat} {t e i : TypeId} {v : Value} {d : DataW H} {p : List MemPlace}
    (ht : P.underlying t = some (.slice e)) (he : P.underlying e = some (.array 2 i)) (hi : P.underlying i = some (.int .i64)) (hci : P.cellsOf i = 1) (hce : P.cellsOf e = 2)
    (hv : Value.okWide P w r b0 t v) (h : DataW.Trod enc P w base spare held t v d p) :
    ∃ (A : Option Addr) (len c : Nat) (f : Nat → Int × Int), v = .slice A len c ∧ len ≤ c ∧ len ≤ maxLen ∧ Src w A len f := by
  obtain ⟨a, len, cap, rfl⟩ := okWide_slice ht hv
  obtain ⟨fuel, hf⟩ := h
  rcases open_slice ht hf with ⟨h0, _⟩ | ⟨a', len', cap', m, n, D, Pl, h0, hb, hl, hm, hmm, _, hel⟩
  · simp only [Value.cells, List.cons.injEq, and_true, Value.slice.injEq] at h0
    obtain ⟨rfl, rfl, rfl⟩ := h0
    exact ⟨none, 0, 0, fun _ => (0, 0), rfl, Nat.le_refl _, Nat.zero_le _, fun i hi => absurd hi (by omega)⟩
  · simp only [Value.cells, List.cons.injEq, and_true, Value.slice.injEq] at h0
    obtain ⟨rfl, rfl, rfl⟩ := h0
    have key : ∀ k, k < len → ∃ z : Int × Int, w.cell? (a'.add (k * 2)) = some (.int .i64 z.1) ∧ w.cell? ((a'.add (k * 2)).add 1) = some (.int .i64 z.2) := by
      intro k hk
      have hkm : k < m := by rw [hmm]; split <;> omega
      obtain ⟨cs', hc, htr⟩ := hel k hkm
      rw [hce] at hc
      obtain ⟨_, hcl, hat⟩ := World.cells?_some hc
      obtain ⟨xs, m', _, _, hl', hxl, hx⟩ := DataW.trod_array he htr
      rw [hce] at hl'
      rw [hci] at hx
      have one : ∀ j, j < 2 → ∃ z : Int, w.cell? ((a'.add (k * 2)).add j) = some (.int .i64 z) := by
        intro j hj
        have hjl : j < cs'.length := by omega
        have hxj := hx j hj
        rw [Nat.mul_one, List.drop_eq_getElem_cons hjl, List.getElem?_eq_getElem (by omega)] at hxj
        simp only [List.take_succ_cons, List.take_zero] at hxj
        obtain ⟨z, hz1, _, _⟩ := DataW.trod_int hi hxj
        simp only [List.cons.injEq, and_true] at hz1
        refine ⟨z, ?_⟩
        rw [hat j (by omega), List.getElem?_eq_getElem hjl, hz1]
      obtain ⟨z0, h0⟩ := one 0 (by omega)
      obtain ⟨z1, h1⟩ := one 1 (by omega)
      exact ⟨(z0, z1), by simpa [Addr.add] using h0, h1⟩
    refine ⟨some a', len, cap, fun k => if hk : k < len then (key k hk).choose else (0, 0), rfl, hl, by omega, fun k hk => ?_⟩
    have hs := (key k hk).choose_spec
    simp only [hk, dif_pos]
    refine ⟨a', rfl, ?_, hs.1, hs.2⟩
    have := cell_lt hs.1
    rwa [block_of_add] at this
end
end Go.Proofs.Ytpfogfglkknmoaa
