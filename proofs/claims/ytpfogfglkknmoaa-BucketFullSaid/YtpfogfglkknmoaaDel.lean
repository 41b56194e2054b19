/- slices.DeleteFunc at a row of the call's own; Sweep. -/
import Derived.Test.YtpfogfglkknmoaaOwn
namespace Go.Proofs.Ytpfogfglkknmoaa
open Go.RowKit

/-- three cells stored -/
abbrev put3 (w : World) (g o : Nat) (b : Bk) : World := ((w.setCell ⟨g, o, none⟩ (.string b.key)).setCell ⟨g, o + 1, none⟩ (.int .i64 b.left)).setCell ⟨g, o + 2, none⟩ (.int .i64 b.at_)
theorem put3_same {w : World} {g o : Nat} {b : Bk} (h : ∀ j, j < 3 → ∃ u, w.cell? ⟨g, o + j, none⟩ = some u) : At (put3 w g o b) g o b := by
  obtain ⟨u0, h0⟩ := h 0 (by omega)
  obtain ⟨u1, h1⟩ := h 1 (by omega)
  obtain ⟨u2, h2⟩ := h 2 (by omega)
  rw [Nat.add_zero] at h0
  have n01 : (⟨g, o, none⟩ : Addr) ≠ ⟨g, o + 1, none⟩ := by simp
  have n02 : (⟨g, o, none⟩ : Addr) ≠ ⟨g, o + 2, none⟩ := by simp
  have n12 : (⟨g, o + 1, none⟩ : Addr) ≠ ⟨g, o + 2, none⟩ := by simp
  refine ⟨?_, ?_, ?_⟩
  · exact (World.cell?_setCell_other _ _ _ _ n02.symm).trans ((World.cell?_setCell_other _ _ _ _ n01.symm).trans (World.cell?_setCell_same _ _ _ h0))
  · exact (World.cell?_setCell_other _ _ _ _ n12.symm).trans (World.cell?_setCell_same _ _ _ ((World.cell?_setCell_other _ _ _ _ n01).trans h1))
  · exact World.cell?_setCell_same _ _ _ ((World.cell?_setCell_other _ _ _ _ n12).trans ((World.cell?_setCell_other _ _ _ _ n02).trans h2))
theorem put3_other {w : World} {g o : Nat} {b : Bk} {p : Addr} (h : p.block ≠ g ∨ p.off < o ∨ o + 3 ≤ p.off) : (put3 w g o b).cell? p = w.cell? p := by
  have n : ∀ j, j < 3 → (⟨g, o + j, none⟩ : Addr) ≠ p := by
    intro j hj e
    subst e
    simp at h
    omega
  exact (World.cell?_setCell_other _ _ _ _ (n 2 (by omega))).trans ((World.cell?_setCell_other _ _ _ _ (n 1 (by omega))).trans (World.cell?_setCell_other _ _ _ _ (n 0 (by omega))))
theorem put3_at {w : World} {g o o' : Nat} {b b' : Bk} (h : At w g o' b') (hd : o' + 3 ≤ o ∨ o + 3 ≤ o') : At (put3 w g o b) g o' b' :=
  ⟨(put3_other (by simp; omega)).trans h.1, (put3_other (by simp; omega)).trans h.2.1, (put3_other (by simp; omega)).trans h.2.2⟩
theorem setCell_some {w : World} {p a : Addr} {u v : Value} (h : w.cell? a = some u) : ∃ u', (w.setCell p v).cell? a = some u' := by
  by_cases e : p = a
  · subst e; exact ⟨_, World.cell?_setCell_same _ _ _ h⟩
  · exact ⟨_, (World.cell?_setCell_other _ _ _ _ e).trans h⟩
theorem put3_some {w : World} {g o : Nat} {b : Bk} {p : Addr} (h : ∃ u, w.cell? p = some u) : ∃ u, (put3 w g o b).cell? p = some u := by
  obtain ⟨_, h0⟩ := h
  obtain ⟨_, h1⟩ := setCell_some (p := ⟨g, o, none⟩) (v := .string b.key) h0
  obtain ⟨_, h2⟩ := setCell_some (p := ⟨g, o + 1, none⟩) (v := .int .i64 b.left) h1
  exact setCell_some h2
theorem put3_frozen {w : World} {g o : Nat} {b : Bk} (p : Addr) : (put3 w g o b).frozen? p = w.frozen? p := by simp
theorem put3_below {B : Nat} {a w : World} {g o : Nat} {b : Bk} (h : Below B a w) (hg : B ≤ g) : Below B a (put3 w g o b) := ((h.setCell (p := ⟨g, o, none⟩) hg _).setCell (p := ⟨g, o + 1, none⟩) hg _).setCell (p := ⟨g, o + 2, none⟩) hg _

theorem At.below {w w' : World} {B g o : Nat} {b : Bk} (h : At w g o b) (hb : Below B w w') (hg : g < B) : At w' g o b :=
  ⟨(hb.cell (by exact hg)).trans h.1, (hb.cell (by exact hg)).trans h.2.1, (hb.cell (by exact hg)).trans h.2.2⟩

/-- what is kept of the first j -/
def kept (l : List Bk) (now : Int) (j : Nat) : List Bk := (l.take j).filter fun b => !full b now
theorem kept_keep {l : List Bk} {now : Int} {j : Nat} (hj : j < l.length) (h : full (l[j]'hj) now = false) : kept l now (j + 1) = kept l now j ++ [l[j]'hj] := by
  unfold kept
  rw [List.take_succ_eq_append_getElem hj, List.filter_append]
  simp [h]
theorem kept_skip {l : List Bk} {now : Int} {j : Nat} (hj : j < l.length) (h : full (l[j]'hj) now = true) : kept l now (j + 1) = kept l now j := by
  unfold kept
  rw [List.take_succ_eq_append_getElem hj, List.filter_append]
  simp [h]
theorem kept_le (l : List Bk) (now : Int) (j : Nat) : (kept l now j).length ≤ j := by
  unfold kept
  exact Nat.le_trans (List.length_filter_le _ _) (by rw [List.length_take]; omega)
theorem kept_all {l : List Bk} {now : Int} (j : Nat) (h : ∀ i (hi : i < l.length), i < j → full (l[i]'hi) now = false) : kept l now j = l.take j := by
  unfold kept
  rw [List.filter_eq_self]
  intro b hb
  obtain ⟨i, hi, rfl⟩ := List.getElem_of_mem hb
  rw [List.length_take] at hi
  rw [List.getElem_take, h i (by omega) (by omega)]
  rfl
theorem sweepP_kept (l : List Bk) (now : Int) : sweepP l now = kept l now l.length := by
  unfold sweepP kept
  rw [List.take_length]
  congr 1

structure DelInv (w wr : World) (B g : Nat) (l : List Bk) (now : Int) (i j : Nat) : Prop where
  len : (kept l now j).length = i
  done : ∀ t (h : t < (kept l now j).length), At wr g (t * 3) ((kept l now j)[t]'h)
  todo : ∀ t, j ≤ t → (h : t < l.length) → At wr g (t * 3) (l[t]'h)
  some_ : ∀ t, t < l.length * 3 → ∃ u, wr.cell? ⟨g, t, none⟩ = some u
  frozen : ∀ t, t < l.length * 3 → wr.frozen? ⟨g, t, none⟩ = false
  lt : g < wr.heap.size
  below : Below B w wr
theorem DelInv.later {w wr w2 : World} {B g : Nat} {l : List Bk} {now : Int} {i j : Nat} (h : DelInv w wr B g l now i j) (hb : Below wr.heap.size wr w2) (hB : B ≤ w.heap.size) : DelInv w w2 B g l now i j :=
  ⟨h.len, fun t ht => (h.done t ht).below hb h.lt, fun t ht h2 => (h.todo t ht h2).below hb h.lt, fun t ht => by
    obtain ⟨u, hu⟩ := h.some_ t ht
    exact ⟨u, (hb.cell (by exact h.lt)).trans hu⟩, fun t ht => (frozen_below hb h.lt).trans (h.frozen t ht), Nat.lt_of_lt_of_le h.lt hb.size, h.below.trans (hb.mono (Nat.le_trans hB h.below.size))⟩
theorem DelInv.skip {w wr : World} {B g : Nat} {l : List Bk} {now : Int} {i j : Nat} (h : DelInv w wr B g l now i j) (hj : j < l.length) (hf : full (l[j]'hj) now = true) : DelInv w wr B g l now i (j + 1) := by
  have e := kept_skip hj hf
  refine ⟨by rw [e]; exact h.len, fun t ht => ?_, fun t ht h2 => h.todo t (by omega) h2, h.some_, h.frozen, h.lt, h.below⟩
  have ht' : t < (kept l now j).length := by rw [← e]; exact ht
  have := h.done t ht'
  simp only [e]
  exact this
theorem DelInv.keep {w wr : World} {B g : Nat} {l : List Bk} {now : Int} {i j : Nat} (h : DelInv w wr B g l now i j) (hj : j < l.length) (hf : full (l[j]'hj) now = false) (hB : B ≤ g) : DelInv w (put3 wr g (i * 3) (l[j]'hj)) B g l now (i + 1) (j + 1) := by
  have e := kept_keep hj hf
  have hij : i ≤ j := by rw [← h.len]; exact kept_le _ _ _
  refine ⟨by rw [e, List.length_append, h.len]; rfl, fun t ht => ?_, fun t ht h2 => put3_at (h.todo t (by omega) h2) (by omega), fun t ht => put3_some (h.some_ t ht), fun t ht => (put3_frozen _).trans (h.frozen t ht), by simpa using h.lt, put3_below h.below hB⟩
  have ht' : t < (kept l now j ++ [l[j]'hj]).length := by rw [← e]; exact ht
  have hg : (kept l now (j + 1))[t]'ht = (kept l now j ++ [l[j]'hj])[t]'ht' := by simp only [e]
  rw [hg]
  rw [List.length_append, h.len] at ht'
  have hs1 : [l[j]'hj].length = 1 := rfl
  by_cases hti : t < i
  · rw [List.getElem_append_left (by rw [h.len]; exact hti)]
    exact put3_at (h.done t (by rw [h.len]; exact hti)) (by omega)
  · have : t = i := by omega
    subst this
    rw [List.getElem_append_right (by rw [h.len]; omega)]
    simp only [h.len, Nat.sub_self, List.getElem_cons_zero]
    exact put3_same fun k hk => h.some_ _ (by omega)

theorem zeros54 (n : Nat) : (Builtin.zeroCells (.agg #[.string ⟨#[]⟩, .int .i64 0, .int .i64 0] : Value).cells n).toList.length = n * 3 := by
  simp [Builtin.zeroCells, Value.cells]
theorem zeros54_one (n : Nat) : ∀ v ∈ (Builtin.zeroCells (.agg #[.string ⟨#[]⟩, .int .i64 0, .int .i64 0] : Value).cells n).toList, v.oneCell' = true := by
  intro v hv
  simp only [Builtin.zeroCells, Value.cells, Array.toList_map, List.mem_map] at hv
  obtain ⟨i, _, rfl⟩ := hv
  have h3 : i % 3 = 0 ∨ i % 3 = 1 ∨ i % 3 = 2 := by omega
  show ((#[.string ⟨#[]⟩, .int .i64 0, .int .i64 0] : Array Value)[i % 3]!).oneCell' = true
  rcases h3 with h | h | h <;> rw [h] <;> rfl
theorem run_clear (w : World) (g o n c : Nat) (ty : TypeId) (hn : 0 < n) (hs : ∀ t, t < n * 3 → ∃ u, w.cell? ⟨g, o + t, none⟩ = some u) (hf : ∀ t, t < n * 3 → w.frozen? ⟨g, o + t, none⟩ = false) :
    (Builtin.clear_ #[25] ty #[.slice (some ⟨g, o, none⟩) n c]).run Try.prog w = .ok (.tuple #[]) (w.setCells g o (Builtin.zeroCells (.agg #[.string ⟨#[]⟩, .int .i64 0, .int .i64 0] : Value).cells n).toList) := by
  have h := run_storeCells_cells (P := Try.prog) g o (Builtin.zeroCells (.agg #[.string ⟨#[]⟩, .int .i64 0, .int .i64 0] : Value).cells n).toList 0 w (by
    intro j hj
    rw [zeros54] at hj
    obtain ⟨u, hu⟩ := hs j hj
    simp [hu]) (by
    intro j hj
    rw [zeros54] at hj
    exact hf j hj) (zeros54_one n)
  rw [Nat.add_zero] at h
  obtain ⟨m, rfl⟩ : ∃ m, n = m + 1 := ⟨n - 1, by omega⟩
  simp only [Builtin.clear_]
  simp [run_underlying Try.underlying25, Try.zeroValue54, h]

theorem size_setCells' (b : Nat) : ∀ (vs : List Value) (o : Nat) (w : World), (w.setCells b o vs).heap.size = w.heap.size
  | [], _, _ => rfl
  | v :: vs, o, w => (size_setCells' b vs (o + 1) _).trans (by simp)
theorem below_setCells' {B b : Nat} {a : World} (hb : B ≤ b) : ∀ (vs : List Value) (o : Nat) (w : World), Below B a w → Below B a (w.setCells b o vs)
  | [], _, _, h => h
  | _ :: vs, o, _, h => below_setCells' hb vs (o + 1) _ (h.setCell (by exact hb) _)
theorem DelInv.clear {w wr : World} {B g : Nat} {l : List Bk} {now : Int} {i : Nat} (h : DelInv w wr B g l now i l.length) (hB : B ≤ g) (vs : List Value) : Below B w (wr.setCells g (i * 3) vs) ∧ Owned (wr.setCells g (i * 3) vs) B g (kept l now l.length) := by
  have hlen := h.len
  have hle := kept_le l now l.length
  refine ⟨below_setCells' hB _ _ _ h.below, hB, by rw [size_setCells']; exact h.lt, fun t ht => ?_, fun t ht => ?_⟩
  · obtain ⟨a, b, c⟩ := h.done t ht
    refine ⟨?_, ?_, ?_⟩
    · rw [World.cell?_setCells_out g vs (i * 3) wr _ (by intro _ _; left; show t * 3 < i * 3; omega)]; exact a
    · rw [World.cell?_setCells_out g vs (i * 3) wr _ (by intro _ _; left; show t * 3 + 1 < i * 3; omega)]; exact b
    · rw [World.cell?_setCells_out g vs (i * 3) wr _ (by intro _ _; left; show t * 3 + 2 < i * 3; omega)]; exact c
  · rw [World.frozen?_setCells]
    exact h.frozen t (by omega)

set_option maxHeartbeats 4000000 in
theorem delete_any (l : List Bk) (hf : Fit l) (hlen : l.length ≤ 1000) (now : Int) (hn : Time now) (p g c B : Nat) (hlc : l.length ≤ c) (w : World) (hp : p < w.heap.size) (hpg : p ≠ g) (hpc : w.cell? ⟨p, 0, none⟩ = some (.int .i64 now)) (hB : B ≤ w.heap.size) (ho : Owned w B g l) :
    Calls Try.prog 30 #[.slice (some ⟨g, 0, none⟩) l.length c, .func (.func 31) #[] #[.pointer (some ⟨p, 0, none⟩)]] w fun e w' => e = .returned (.slice (some ⟨g, 0, none⟩) (sweepP l now).length c) ∧ Below B w w' ∧ Owned w' B g (sweepP l now) := by
  have hidx := index_any (some ⟨g, 0, none⟩) c l hf hlen now hn p w hp hpc ho.row
  have HO := Lib.hid ho
  have HF := Lib.hid hf
  obtain ⟨hBg, hgw, -, -⟩ := ho
  clear hf
  rw [sweepP_kept]
  generalize hkv : kept l now l.length = kv
  have HK := Lib.hid hkv
  clear hkv
  go_enter Try.func30, Try.ntmps30
  go_wp2_with (go_at_call 40; refine hidx.mono ?_; rintro e w1 ⟨r, rfl, hb1, hr⟩; clear hidx; rcases hr with ⟨rfl, hall⟩ | ⟨k0, hk0, rfl, ht, hall⟩)
  · have e : kv = l := by rw [← HK.out, kept_all l.length (fun i hi _ => hall i hi), List.take_length]
    subst e
    go_ret
    exact ⟨rfl, hb1.mono hB, HO.out.below hb1⟩
  · have hst : DelInv w w1 B g l now k0 (k0 + 1) := by
      have e1 : kept l now k0 = l.take k0 := kept_all k0 (fun i hi h => hall i h)
      have e2 : kept l now (k0 + 1) = l.take k0 := by rw [kept_skip hk0 ht, e1]
      have h0 := HO.out
      refine DelInv.later ⟨by rw [e2, List.length_take]; omega, fun t h => ?_, fun t _ h => h0.2.2.1 t h, fun t h => ?_, h0.2.2.2, hgw, Below.refl _ _⟩ hb1 hB
      · have h' : t < (l.take k0).length := by rw [← e2]; exact h
        have h'' : t < l.length := by rw [List.length_take] at h'; omega
        have hA := h0.2.2.1 t h''
        have : (kept l now (k0 + 1))[t]'h = l[t]'h'' := by simp only [e2]; rw [List.getElem_take]
        rw [this]; exact hA
      · have h3 : t / 3 < l.length := by omega
        have hA := h0.2.2.1 _ h3
        have hm : t % 3 = 0 ∨ t % 3 = 1 ∨ t % 3 = 2 := by omega
        rcases hm with hm | hm | hm
        · exact ⟨_, by have := hA.1; rwa [show t / 3 * 3 = t from by omega] at this⟩
        · exact ⟨_, by have := hA.2.1; rwa [show t / 3 * 3 + 1 = t from by omega] at this⟩
        · exact ⟨_, by have := hA.2.2; rwa [show t / 3 * 3 + 2 = t from by omega] at this⟩
    have HST := Lib.hid hst
    have HPC := Lib.hid ((hb1.cell (p := ⟨p, 0, none⟩) hp).trans hpc)
    have hp1 : p < w1.heap.size := Nat.lt_of_lt_of_le hp hb1.size
    clear hst hall ht hpc HO
    have hkm : ((k0 : Int) == -1) = false := by simp
    rw [hkm]
    go_loopw [5, 6, 7] (fun v5 v6 _ wr => ∃ i j : Nat, v5 = .int .i64 (i : Int) ∧ v6 = .int .i64 (j : Int) ∧ j ≤ l.length ∧ i < j ∧ p < wr.heap.size ∧ wr.cell? ⟨p, 0, none⟩ = some (.int .i64 now) ∧ Hid (DelInv w wr B g l now i j))
      (fun _ v6 _ _ => l.length - (intOf v6).toNat)
    case atStart => exact ⟨k0, k0 + 1, rfl, by go_num, by omega, by omega, hp1, HPC.out, HST⟩
    case round =>
      obtain ⟨i, j, rfl, rfl, hjl, hij, hpr, hpc, HI⟩ := hrel
      have hgr := HI.out.lt
      by_cases hlt : j < l.length
      · obtain ⟨c0, c1, c2⟩ := HI.out.todo j (Nat.le_refl _) hlt
        have hcall := fun W hW hc => pred_any (l[j]'hlt) (HF.out _ (List.getElem_mem hlt)) now hn p W hW hc
        unfold Bk.val at hcall
        have hjz : (j : Int) < (l.length : Int) := by omega
        by_cases hq : full (l[j]'hlt) now = true
        · have HN : Hid (∀ W, Below wr.heap.size wr W → DelInv w W B g l now i (j + 1)) := Lib.hid fun W hW => (HI.out.skip hlt hq).later hW hB
          rw [hq] at hcall
          clear hq
          generalize l[j]'hlt = b at c0 c1 c2 hcall
          go_wp2_with (go_at_call 31; refine (hcall _ (by simp; omega) (by exact Lib.cell?_alloc_some _ hpc)).mono ?_; rintro e w' ⟨rfl, hb2⟩)
          have hb3 : Below wr.heap.size wr w' := ((Below.refl _ _).alloc (Nat.le_refl _) _).trans (hb2.mono (by simp))
          go_roundw
          case rel => exact ⟨i, j + 1, rfl, by go_num, by omega, by omega, Nat.lt_of_lt_of_le hpr hb3.size, (hb3.cell (by exact hpr)).trans hpc, Lib.hid (HN.out _ hb3)⟩
          case measure => simp [intOf]; omega
        · have hqf : full (l[j]'hlt) now = false := by simpa using hq
          have HN : Hid (∀ W, Below wr.heap.size wr W → DelInv w (put3 W g (i * 3) (l[j]'hlt)) B g l now (i + 1) (j + 1)) := Lib.hid fun W hW => (HI.out.later hW hB).keep hlt hqf hBg
          have hso : ∀ t, t < 3 → ∃ u, wr.cell? ⟨g, i * 3 + t, none⟩ = some u := fun t ht => HI.out.some_ _ (by omega)
          have hfr : ∀ t, t < 3 → wr.frozen? ⟨g, i * 3 + t, none⟩ = false := fun t ht => HI.out.frozen _ (by omega)
          obtain ⟨s0, hs0⟩ := hso 0 (by omega)
          obtain ⟨s1, hs1⟩ := hso 1 (by omega)
          obtain ⟨s2, hs2⟩ := hso 2 (by omega)
          have f0 := hfr 0 (by omega)
          have f1 := hfr 1 (by omega)
          have f2 := hfr 2 (by omega)
          rw [Nat.add_zero] at hs0 f0
          rw [hqf] at hcall
          clear hq hqf hso hfr
          generalize l[j]'hlt = b at c0 c1 c2 hcall HN
          go_wp2_with (go_at_call 31; refine (hcall _ (by simp; omega) (by exact Lib.cell?_alloc_some _ hpc)).mono ?_; rintro e w' ⟨rfl, hb2⟩; have hb3 : Below wr.heap.size wr w' := ((Below.refl _ _).alloc (Nat.le_refl _) _).trans (hb2.mono (by simp)); have kk0 : w'.cell? ⟨wr.heap.size, 0, none⟩ = some (.string b.key) := (hb2.cell (p := ⟨wr.heap.size, 0, none⟩) (by simp)).trans (by simp); have kk1 : w'.cell? ⟨wr.heap.size, 1, none⟩ = some (.int .i64 b.left) := (hb2.cell (p := ⟨wr.heap.size, 1, none⟩) (by simp)).trans (by simp); have kk2 : w'.cell? ⟨wr.heap.size, 2, none⟩ = some (.int .i64 b.at_) := (hb2.cell (p := ⟨wr.heap.size, 2, none⟩) (by simp)).trans (by simp); have t0 := (hb3.cell (p := ⟨g, i * 3, none⟩) hgr).trans hs0; have t1 := (hb3.cell (p := ⟨g, i * 3 + 1, none⟩) hgr).trans hs1; have t2 := (hb3.cell (p := ⟨g, i * 3 + 2, none⟩) hgr).trans hs2; have g0 := (frozen_below hb3 (p := ⟨g, i * 3, none⟩) hgr).trans f0; have g1 := (frozen_below hb3 (p := ⟨g, i * 3 + 1, none⟩) hgr).trans f1; have g2 := (frozen_below hb3 (p := ⟨g, i * 3 + 2, none⟩) hgr).trans f2)
          go_roundw
          case rel => exact ⟨i + 1, j + 1, by go_num, by go_num, by omega, by omega, by simpa using Nat.lt_of_lt_of_le hpr hb3.size, (put3_other (b := b) (p := ⟨p, 0, none⟩) (by left; exact hpg)).trans ((hb3.cell (by exact hpr)).trans hpc), Lib.hid (HN.out _ hb3)⟩
          case measure => simp [intOf]; omega
      · obtain rfl : j = l.length := by omega
        have hcl : ∀ ty, (Builtin.clear_ #[25] ty #[.slice (some ⟨g, i * 3, none⟩) (l.length - i) (c - i)]).run Try.prog wr = .ok (.tuple #[]) (wr.setCells g (i * 3) (Builtin.zeroCells (.agg #[.string ⟨#[]⟩, .int .i64 0, .int .i64 0] : Value).cells (l.length - i)).toList) :=
          fun ty => run_clear wr g (i * 3) (l.length - i) (c - i) ty (by omega) (fun t ht => HI.out.some_ _ (by omega)) (fun t ht => HI.out.frozen _ (by omega))
        have hend := HI.out.clear hBg (Builtin.zeroCells (.agg #[.string ⟨#[]⟩, .int .i64 0, .int .i64 0] : Value).cells (l.length - i)).toList
        have hik : kv.length = i := by rw [← HK.out]; exact HI.out.len
        rw [HK.out] at hend
        subst hik
        have HE := Lib.hid hend
        clear hend
        generalize (Builtin.zeroCells (.agg #[.string ⟨#[]⟩, .int .i64 0, .int .i64 0] : Value).cells (l.length - kv.length)).toList = zs at hcl HE
        have hll : ¬ (l.length : Int) < (l.length : Int) := by omega
        have hne : ¬ c = kv.length := by omega
        go_wp2_with fail
        go_ret
        exact ⟨rfl, HE.out⟩
end Go.Proofs.Ytpfogfglkknmoaa
