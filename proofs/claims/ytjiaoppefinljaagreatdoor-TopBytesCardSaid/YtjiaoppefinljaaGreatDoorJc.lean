/- Contracts of requests' bytes. -/
import Derived.Test.YtjiaoppefinljaaGreatDoorJb
import Derived.Test.YtjiaoppefinljaaGreatDoorJa
import Derived.Deep.DeepCutAuto
import Derived.Laws.Tables
import Derived.Great.Walk
import Derived.Laws.ResultCell
import Derived.Laws.CopyOwn
import Derived.Deep.WholeRow
set_option linter.unusedVariables false
set_option linter.unusedSimpArgs false
set_option linter.unusedSectionVars false
namespace Go.Proofs.YtjiaoppefinljaaGreatDoor.Pk
open Go.RowKit
set_option maxRecDepth 100000

theorem wpList_allocRow {P : Program} {ops : Array Oper} {rest : List Oper} {o : Oper} {a : Act} {w : World} {Q : Exit → Act → World → Prop} (hg : o.guard = none) (t : TypeId) (ho : o.op = .alloc t) (z : Value)
    (hz : (P.info? t).bind (·.zero) = some z) (N : Nat) (hN : w.heap.size = N)
    (h : wpList P ops Q rest (a.put o.dst (.pointer (some ⟨N, 0, none⟩))) (w.alloc (.cells z.cells t))) : wpList P ops Q (o :: rest) a w := by
  subst hN
  refine Go.Great.wpList_allocTo hg o.dst rfl _ _ ?_ h
  cases hq : P.info? t with
  | none => simp [hq] at hz
  | some i =>
    have hz2 : i.zero = some z := by simpa [hq] using hz
    unfold execOp
    simp [ho, Instr.alloc, zeroValue, typeInfo, hq, hz2, newVar, newRow, newObj]
    rfl
def allC : Array Value := #[.bool false, .bool false, .bool false, .bool false, .bool false, .bool true, .bool false, .bool false, .bool true, .bool false, .bool true, .bool false, .bool true, .bool false, .bool false, .bool true, .bool false, .bool false, .bool false, .bool true, .bool true, .bool false, .bool true, .bool false, .bool false, .bool true, .bool false, .bool true, .bool false, .bool false, .bool true, .bool false, .bool true, .bool true, .bool false, .bool true, .bool false, .bool false, .bool true, .bool false, .bool false, .bool true, .bool true, .bool false, .bool false, .bool true, .bool true, .bool true, .bool false, .bool false, .bool true, .bool true, .bool false, .bool true, .bool false, .bool false, .bool true, .bool true, .bool false, .bool false, .bool true, .bool false, .bool false, .bool false, .bool false, .bool true, .bool true, .bool true, .bool false, .bool false, .bool false, .bool false, .bool true, .bool false, .bool false, .bool true, .bool false, .bool false, .bool true, .bool false, .bool false, .bool false, .bool true, .bool false, .bool false]
theorem set5 (W : World) (g : Nat) (x0 x1 x2 x3 x4 a b c d e : Value) (t : TypeId) (fr : Nat × Nat) (h : W.heap[g]? = some (.cells #[x0, x1, x2, x3, x4] t fr)) :
    ((((W.setCell ⟨g, 0, none⟩ a).setCell ⟨g, 1, none⟩ b).setCell ⟨g, 2, none⟩ c).setCell ⟨g, 3, none⟩ d).setCell ⟨g, 4, none⟩ e = W.setRow g #[a, b, c, d, e] := by
  rw [setCell_eq_setRow W g 0 _ t fr a h]
  have h1 := setRow_heap W g _ (#[x0, x1, x2, x3, x4].setIfInBounds 0 a) t fr h
  rw [setCell_eq_setRow _ g 1 _ t fr b h1, setRow_setRow]
  have h2 := setRow_heap W g _ ((#[x0, x1, x2, x3, x4].setIfInBounds 0 a).setIfInBounds 1 b) t fr h
  rw [setCell_eq_setRow _ g 2 _ t fr c h2, setRow_setRow]
  have h3 := setRow_heap W g _ (((#[x0, x1, x2, x3, x4].setIfInBounds 0 a).setIfInBounds 1 b).setIfInBounds 2 c) t fr h
  rw [setCell_eq_setRow _ g 3 _ t fr d h3, setRow_setRow]
  have h4 := setRow_heap W g _ ((((#[x0, x1, x2, x3, x4].setIfInBounds 0 a).setIfInBounds 1 b).setIfInBounds 2 c).setIfInBounds 3 d) t fr h
  rw [setCell_eq_setRow _ g 4 _ t fr e h4, setRow_setRow]
  rfl
theorem of_end {a : Act} {w : World} {R : Ending → World → Prop} {cs : Array Value} {fr : Nat × Nat} {t : TypeId} {g : Nat} {b : Value} (hd : a.defers = []) (hp : a.tmps.getD 2 undef = .pointer (some ⟨g, 0, none⟩)) (h3 : a.tmps.getD 3 undef = b)
    (hg : w.heap[g]? = some (.cells cs t fr)) (hi : (Tryz.prog.info? 89).map (·.size) = some cs.size) (hR : R (.returned (.tuple #[.agg cs, b])) w) : bodyPost Tryz.prog Tryz.f35 R .ret a w := by
  refine bodyPost_ret (v := .tuple #[.agg cs, b]) ?_ hd hR
  rw [results_cell_tmp (p := 2) (u := 3) (ty := 89) rfl, hp, h3]
  simp only [asAddr, Sem.run_pure, Result.andThen_ok, run_loadVar_row w g t 89 cs fr _ hg Tryz.underlying89 rfl hi]
def partsV (p : Bool × Bool × Bool × Bool × Bool) : Value := .agg #[.bool p.1, .bool p.2.1, .bool p.2.2.1, .bool p.2.2.2.1, .bool p.2.2.2.2]
theorem heap_alloc_get (w : World) (o : Obj) (i : Nat) : (w.alloc o).heap[i]? = if i = w.heap.size then some o else w.heap[i]? := by
  by_cases h : i = w.heap.size
  · rw [if_pos h, h]; exact heap_alloc_new w o
  · rw [if_neg h]
    rcases Nat.lt_or_ge i w.heap.size with h2 | h2
    · first | exact heap_alloc_old w o h2 | exact heap_alloc_old w o i h2
    · rw [Array.getElem?_eq_none h2, Array.getElem?_eq_none (by simp; omega)]
theorem wpList_build2 {P : Program} {ops : Array Oper} {rest : List Oper} {o : Oper} {a : Act} {w : World} {Q : Exit → Act → World → Prop} (hg : o.guard = none) (t : TypeId) (parts : Array (Nat × Operand)) (cells : Array Value) (ho : o.op = .build t parts)
    (hf : P.built t (parts.map fun (i, x) => (i, a.eval x)).toList = some cells)
    (h : wpList P ops Q rest (a.put o.dst (.agg cells)) w) : wpList P ops Q (o :: rest) a w :=
  wpList_build hg t parts ho (by rw [hf]; rfl) (by rw [hf]; exact h)
set_option maxHeartbeats 4000000 in
theorem of_any (kind : Int) (w : World) : Calls Tryz.prog 35 #[.int .i64 kind] w fun e w' => e = .returned (.tuple #[partsV (parts kind), .bool (decide (1 ≤ kind ∧ kind ≤ 16))]) ∧ Below w.heap.size w w' := by
  go_enter Tryz.func35, Tryz.ntmps35
  go_upto_region 4 with fail
  obtain ⟨W, hW⟩ : ∃ W, W = (((((((w.alloc (.cells #[.bool false, .bool false, .bool false, .bool false, .bool false] 89)).alloc (.cells #[.bool true, .bool false, .bool false, .bool false, .bool false] 89)).alloc (.cells #[.bool false, .bool false, .bool true, .bool false, .bool false] 89)).alloc (.cells #[.bool true, .bool false, .bool false, .bool true, .bool false] 89)).alloc (.cells #[.bool true, .bool false, .bool true, .bool false, .bool false] 89)).alloc (.cells #[.bool false, .bool true, .bool true, .bool false, .bool false] 89)).alloc (.cells #[.bool true, .bool true, .bool true, .bool false, .bool false] 89)) := ⟨_, rfl⟩
  rw [← hW]
  have g2 : W.heap[w.heap.size]? = some (.cells #[.bool false, .bool false, .bool false, .bool false, .bool false] 89 (0, 0)) := by rw [hW, heap_alloc_get, if_neg (by simp; try omega), heap_alloc_get, if_neg (by simp; try omega), heap_alloc_get, if_neg (by simp; try omega), heap_alloc_get, if_neg (by simp; try omega), heap_alloc_get, if_neg (by simp; try omega), heap_alloc_get, if_neg (by simp; try omega), heap_alloc_get, if_pos rfl]
  have g4 : W.heap[w.heap.size + 1]? = some (.cells #[.bool true, .bool false, .bool false, .bool false, .bool false] 89 (0, 0)) := by rw [hW, heap_alloc_get, if_neg (by simp; try omega), heap_alloc_get, if_neg (by simp; try omega), heap_alloc_get, if_neg (by simp; try omega), heap_alloc_get, if_neg (by simp; try omega), heap_alloc_get, if_neg (by simp; try omega), heap_alloc_get, if_pos (by simp)]
  have g5 : W.heap[w.heap.size + 1 + 1]? = some (.cells #[.bool false, .bool false, .bool true, .bool false, .bool false] 89 (0, 0)) := by rw [hW, heap_alloc_get, if_neg (by simp; try omega), heap_alloc_get, if_neg (by simp; try omega), heap_alloc_get, if_neg (by simp; try omega), heap_alloc_get, if_neg (by simp; try omega), heap_alloc_get, if_pos (by simp)]
  have g6 : W.heap[w.heap.size + 1 + 1 + 1]? = some (.cells #[.bool true, .bool false, .bool false, .bool true, .bool false] 89 (0, 0)) := by rw [hW, heap_alloc_get, if_neg (by simp; try omega), heap_alloc_get, if_neg (by simp; try omega), heap_alloc_get, if_neg (by simp; try omega), heap_alloc_get, if_pos (by simp)]
  have g7 : W.heap[w.heap.size + 1 + 1 + 1 + 1]? = some (.cells #[.bool true, .bool false, .bool true, .bool false, .bool false] 89 (0, 0)) := by rw [hW, heap_alloc_get, if_neg (by simp; try omega), heap_alloc_get, if_neg (by simp; try omega), heap_alloc_get, if_pos (by simp)]
  have g8 : W.heap[w.heap.size + 1 + 1 + 1 + 1 + 1]? = some (.cells #[.bool false, .bool true, .bool true, .bool false, .bool false] 89 (0, 0)) := by rw [hW, heap_alloc_get, if_neg (by simp; try omega), heap_alloc_get, if_pos (by simp)]
  have g9 : W.heap[w.heap.size + 1 + 1 + 1 + 1 + 1 + 1]? = some (.cells #[.bool true, .bool true, .bool true, .bool false, .bool false] 89 (0, 0)) := by rw [hW, heap_alloc_get, if_pos (by simp)]
  have hsz : W.heap.size = w.heap.size + 7 := by rw [hW]; simp
  have hbW : Below w.heap.size w W := by rw [hW]; exact ((((((((Below.refl _ w).alloc (Nat.le_refl _) _).alloc (by simp; try omega) _).alloc (by simp; try omega) _).alloc (by simp; try omega) _).alloc (by simp; try omega) _).alloc (by simp; try omega) _).alloc (by simp; try omega) _)
  clear hW
  refine wp_region_lit ?_
  refine wpList_build2 rfl 89 #[] #[.bool false, .bool false, .bool false, .bool false, .bool false] rfl (by kernel_rfl) ?_
  simp only [Act.put, List.setIfInBounds_toArray, List.set_cons_succ, List.set_cons_zero]
  refine wpList_load_row rfl 89 (.tmp 6) rfl (w.heap.size + 1 + 1 + 1) rfl 89 #[.bool true, .bool false, .bool false, .bool true, .bool false] (0, 0) _ g6 Tryz.underlying89 rfl (by kernel_rfl) ?_
  simp only [Act.put, List.setIfInBounds_toArray, List.set_cons_succ, List.set_cons_zero]
  refine wpList_load_row rfl 89 (.tmp 7) rfl (w.heap.size + 1 + 1 + 1 + 1) rfl 89 #[.bool true, .bool false, .bool true, .bool false, .bool false] (0, 0) _ g7 Tryz.underlying89 rfl (by kernel_rfl) ?_
  simp only [Act.put, List.setIfInBounds_toArray, List.set_cons_succ, List.set_cons_zero]
  refine wpList_build2 rfl 89 #[(0, .const (.bool true)), (4, .const (.bool true))] #[.bool true, .bool false, .bool false, .bool false, .bool true] rfl (by kernel_rfl) ?_
  simp only [Act.put, List.setIfInBounds_toArray, List.set_cons_succ, List.set_cons_zero]
  refine wpList_load_row rfl 89 (.tmp 7) rfl (w.heap.size + 1 + 1 + 1 + 1) rfl 89 #[.bool true, .bool false, .bool true, .bool false, .bool false] (0, 0) _ g7 Tryz.underlying89 rfl (by kernel_rfl) ?_
  simp only [Act.put, List.setIfInBounds_toArray, List.set_cons_succ, List.set_cons_zero]
  refine wpList_load_row rfl 89 (.tmp 7) rfl (w.heap.size + 1 + 1 + 1 + 1) rfl 89 #[.bool true, .bool false, .bool true, .bool false, .bool false] (0, 0) _ g7 Tryz.underlying89 rfl (by kernel_rfl) ?_
  simp only [Act.put, List.setIfInBounds_toArray, List.set_cons_succ, List.set_cons_zero]
  refine wpList_build2 rfl 89 #[(0, .const (.bool true)), (2, .const (.bool true)), (3, .const (.bool true))] #[.bool true, .bool false, .bool true, .bool true, .bool false] rfl (by kernel_rfl) ?_
  simp only [Act.put, List.setIfInBounds_toArray, List.set_cons_succ, List.set_cons_zero]
  refine wpList_load_row rfl 89 (.tmp 6) rfl (w.heap.size + 1 + 1 + 1) rfl 89 #[.bool true, .bool false, .bool false, .bool true, .bool false] (0, 0) _ g6 Tryz.underlying89 rfl (by kernel_rfl) ?_
  simp only [Act.put, List.setIfInBounds_toArray, List.set_cons_succ, List.set_cons_zero]
  refine wpList_load_row rfl 89 (.tmp 8) rfl (w.heap.size + 1 + 1 + 1 + 1 + 1) rfl 89 #[.bool false, .bool true, .bool true, .bool false, .bool false] (0, 0) _ g8 Tryz.underlying89 rfl (by kernel_rfl) ?_
  simp only [Act.put, List.setIfInBounds_toArray, List.set_cons_succ, List.set_cons_zero]
  refine wpList_load_row rfl 89 (.tmp 9) rfl (w.heap.size + 1 + 1 + 1 + 1 + 1 + 1) rfl 89 #[.bool true, .bool true, .bool true, .bool false, .bool false] (0, 0) _ g9 Tryz.underlying89 rfl (by kernel_rfl) ?_
  simp only [Act.put, List.setIfInBounds_toArray, List.set_cons_succ, List.set_cons_zero]
  refine wpList_build2 rfl 89 #[(0, .const (.bool true)), (1, .const (.bool true)), (3, .const (.bool true))] #[.bool true, .bool true, .bool false, .bool true, .bool false] rfl (by kernel_rfl) ?_
  simp only [Act.put, List.setIfInBounds_toArray, List.set_cons_succ, List.set_cons_zero]
  refine wpList_load_row rfl 89 (.tmp 8) rfl (w.heap.size + 1 + 1 + 1 + 1 + 1) rfl 89 #[.bool false, .bool true, .bool true, .bool false, .bool false] (0, 0) _ g8 Tryz.underlying89 rfl (by kernel_rfl) ?_
  simp only [Act.put, List.setIfInBounds_toArray, List.set_cons_succ, List.set_cons_zero]
  refine wpList_load_row rfl 89 (.tmp 4) rfl (w.heap.size + 1) rfl 89 #[.bool true, .bool false, .bool false, .bool false, .bool false] (0, 0) _ g4 Tryz.underlying89 rfl (by kernel_rfl) ?_
  simp only [Act.put, List.setIfInBounds_toArray, List.set_cons_succ, List.set_cons_zero]
  refine wpList_load_row rfl 89 (.tmp 9) rfl (w.heap.size + 1 + 1 + 1 + 1 + 1 + 1) rfl 89 #[.bool true, .bool true, .bool true, .bool false, .bool false] (0, 0) _ g9 Tryz.underlying89 rfl (by kernel_rfl) ?_
  simp only [Act.put, List.setIfInBounds_toArray, List.set_cons_succ, List.set_cons_zero]
  refine wpList_load_row rfl 89 (.tmp 5) rfl (w.heap.size + 1 + 1) rfl 89 #[.bool false, .bool false, .bool true, .bool false, .bool false] (0, 0) _ g5 Tryz.underlying89 rfl (by kernel_rfl) ?_
  simp only [Act.put, List.setIfInBounds_toArray, List.set_cons_succ, List.set_cons_zero]
  refine wpList_load_row rfl 89 (.tmp 6) rfl (w.heap.size + 1 + 1 + 1) rfl 89 #[.bool true, .bool false, .bool false, .bool true, .bool false] (0, 0) _ g6 Tryz.underlying89 rfl (by kernel_rfl) ?_
  simp only [Act.put, List.setIfInBounds_toArray, List.set_cons_succ, List.set_cons_zero]
  refine wpList_load_row rfl 89 (.tmp 5) rfl (w.heap.size + 1 + 1) rfl 89 #[.bool false, .bool false, .bool true, .bool false, .bool false] (0, 0) _ g5 Tryz.underlying89 rfl (by kernel_rfl) ?_
  simp only [Act.put, List.setIfInBounds_toArray, List.set_cons_succ, List.set_cons_zero]
  refine wpList_build2 rfl 126 #[(0, .tmp 17), (1, .tmp 18), (2, .tmp 19), (3, .tmp 20), (4, .tmp 21), (5, .tmp 22), (6, .tmp 23), (7, .tmp 24), (8, .tmp 25), (9, .tmp 26), (10, .tmp 27), (11, .tmp 28), (12, .tmp 29), (13, .tmp 30), (14, .tmp 31), (15, .tmp 32), (16, .tmp 33)] allC rfl (by kernel_rfl) ?_
  simp only [Act.put, List.setIfInBounds_toArray, List.set_cons_succ, List.set_cons_zero]
  have hs5 : (W.alloc (.cells (Array.replicate 85 (.bool false)) 126)).setRow (w.heap.size + 7) allC = W.alloc (.cells allC 126) := by rw [← hsz]; exact World.setRow_alloc_new W _ _ 126
  refine wpList_allocRow rfl 126 rfl (.agg (Array.replicate 85 (.bool false))) (by kernel_rfl) (w.heap.size + 7) hsz ?_
  simp only [Act.put, List.setIfInBounds_toArray, List.set_cons_succ, List.set_cons_zero]
  have hl5 : (W.alloc (.cells (Array.replicate 85 (.bool false)) 126)).heap[w.heap.size + 7]? = some (.cells (Array.replicate 85 (.bool false)) 126 (0, 0)) := by rw [← hsz]; exact heap_alloc_new W _
  refine wpList_store_row rfl 126 (.tmp 10) (.tmp 34) rfl (w.heap.size + 7) allC rfl rfl 126 (Array.replicate 85 (.bool false)) hl5 (by kernel_rfl) (by kernel_rfl) (by kernel_rfl) ?_
  simp only [Value.cells] at hs5 ⊢
  rw [hs5]
  clear hl5 hs5
  have k2 : (W.alloc (.cells allC 126)).heap[w.heap.size]? = some (.cells #[.bool false, .bool false, .bool false, .bool false, .bool false] 89 (0, 0)) := by rw [heap_alloc_get, if_neg (by omega)]; exact g2
  have k10 : (W.alloc (.cells allC 126)).heap[w.heap.size + 7]? = some (.cells allC 126 (0, 0)) := by rw [heap_alloc_get, if_pos (by omega)]
  have hb2 := hbW.alloc (show w.heap.size ≤ W.heap.size by omega) (.cells allC 126)
  generalize (W.alloc (.cells allC 126)) = W2 at k2 k10 hb2 ⊢
  generalize (Value.agg allC) = v34
  clear g4 g5 g6 g7 g8 g9 hsz hbW
  rename_i Q2 K2 hK
  refine hK _ _ ?_
  clear hK
  simp only [Act.put]
  clear g2
  clear W
  have c20 : W2.cell? ⟨w.heap.size, 0, none⟩ = some (.bool false) := by simp [World.cell?, k2]
  have c21 : W2.cell? ⟨w.heap.size, 1, none⟩ = some (.bool false) := by simp [World.cell?, k2]
  have c22 : W2.cell? ⟨w.heap.size, 2, none⟩ = some (.bool false) := by simp [World.cell?, k2]
  have c23 : W2.cell? ⟨w.heap.size, 3, none⟩ = some (.bool false) := by simp [World.cell?, k2]
  have c24 : W2.cell? ⟨w.heap.size, 4, none⟩ = some (.bool false) := by simp [World.cell?, k2]
  have f20 : W2.frozen? ⟨w.heap.size, 0, none⟩ = false := by simp [World.frozen?, k2]
  have f21 : W2.frozen? ⟨w.heap.size, 1, none⟩ = false := by simp [World.frozen?, k2]
  have f22 : W2.frozen? ⟨w.heap.size, 2, none⟩ = false := by simp [World.frozen?, k2]
  have f23 : W2.frozen? ⟨w.heap.size, 3, none⟩ = false := by simp [World.frozen?, k2]
  have f24 : W2.frozen? ⟨w.heap.size, 4, none⟩ = false := by simp [World.frozen?, k2]
  by_cases h1 : kind < 1
  · have y1 : decide (kind < 1) = true := decide_eq_true h1
    have hp : parts kind = (false, false, false, false, false) := by unfold parts; rw [if_neg (by omega)]
    have hd : decide (1 ≤ kind ∧ kind ≤ 16) = false := decide_eq_false (by omega)
    go_wp2_with fail
    refine of_end rfl rfl rfl (by rw [set5 _ _ _ _ _ _ _ _ _ _ _ _ _ _ k2]; exact setRow_heap _ _ _ _ _ _ k2) (by kernel_rfl) ⟨by rw [hp]; first | rfl | (rw [hd]; rfl) | (simp [partsV]; omega), by rw [set5 _ _ _ _ _ _ _ _ _ _ _ _ _ _ k2]; exact below_setRow hb2 (Nat.le_refl _) _⟩
  · have y1 : decide (kind < 1) = false := decide_eq_false h1
    by_cases h2 : 17 ≤ kind
    · have y2 : decide (17 ≤ kind) = true := decide_eq_true h2
      have hp : parts kind = (false, false, false, false, false) := by unfold parts; rw [if_neg (by omega)]
      have hd : decide (1 ≤ kind ∧ kind ≤ 16) = false := decide_eq_false (by omega)
      go_wp2_with fail
      refine of_end rfl rfl rfl (by rw [set5 _ _ _ _ _ _ _ _ _ _ _ _ _ _ k2]; exact setRow_heap _ _ _ _ _ _ k2) (by kernel_rfl) ⟨by first | rfl | (rw [hd]; rfl) | (simp [partsV]; omega), by rw [set5 _ _ _ _ _ _ _ _ _ _ _ _ _ _ k2]; exact below_setRow hb2 (Nat.le_refl _) _⟩
    · have hk : kind = 1 ∨ kind = 2 ∨ kind = 3 ∨ kind = 4 ∨ kind = 5 ∨ kind = 6 ∨ kind = 7 ∨ kind = 8 ∨ kind = 9 ∨ kind = 10 ∨ kind = 11 ∨ kind = 12 ∨ kind = 13 ∨ kind = 14 ∨ kind = 15 ∨ kind = 16 := by omega
      rcases hk with hk | hk | hk | hk | hk | hk | hk | hk | hk | hk | hk | hk | hk | hk | hk | hk
      · subst hk
        clear y1 h1 h2
        have d0 : W2.cell? ⟨w.heap.size + 7, 5, none⟩ = some (.bool true) := by simp [World.cell?, k10, allC]
        have d1 : W2.cell? ⟨w.heap.size + 7, 6, none⟩ = some (.bool false) := by simp [World.cell?, k10, allC]
        have d2 : W2.cell? ⟨w.heap.size + 7, 7, none⟩ = some (.bool false) := by simp [World.cell?, k10, allC]
        have d3 : W2.cell? ⟨w.heap.size + 7, 8, none⟩ = some (.bool true) := by simp [World.cell?, k10, allC]
        have d4 : W2.cell? ⟨w.heap.size + 7, 9, none⟩ = some (.bool false) := by simp [World.cell?, k10, allC]
        go_wp2_with fail
        refine of_end rfl rfl rfl (by rw [set5 _ _ _ _ _ _ _ _ _ _ _ _ _ _ k2]; exact setRow_heap _ _ _ _ _ _ k2) (by kernel_rfl) ⟨by rfl, by rw [set5 _ _ _ _ _ _ _ _ _ _ _ _ _ _ k2]; exact below_setRow hb2 (Nat.le_refl _) _⟩
      · subst hk
        clear y1 h1 h2
        have d0 : W2.cell? ⟨w.heap.size + 7, 10, none⟩ = some (.bool true) := by simp [World.cell?, k10, allC]
        have d1 : W2.cell? ⟨w.heap.size + 7, 11, none⟩ = some (.bool false) := by simp [World.cell?, k10, allC]
        have d2 : W2.cell? ⟨w.heap.size + 7, 12, none⟩ = some (.bool true) := by simp [World.cell?, k10, allC]
        have d3 : W2.cell? ⟨w.heap.size + 7, 13, none⟩ = some (.bool false) := by simp [World.cell?, k10, allC]
        have d4 : W2.cell? ⟨w.heap.size + 7, 14, none⟩ = some (.bool false) := by simp [World.cell?, k10, allC]
        go_wp2_with fail
        refine of_end rfl rfl rfl (by rw [set5 _ _ _ _ _ _ _ _ _ _ _ _ _ _ k2]; exact setRow_heap _ _ _ _ _ _ k2) (by kernel_rfl) ⟨by rfl, by rw [set5 _ _ _ _ _ _ _ _ _ _ _ _ _ _ k2]; exact below_setRow hb2 (Nat.le_refl _) _⟩
      · subst hk
        clear y1 h1 h2
        have d0 : W2.cell? ⟨w.heap.size + 7, 15, none⟩ = some (.bool true) := by simp [World.cell?, k10, allC]
        have d1 : W2.cell? ⟨w.heap.size + 7, 16, none⟩ = some (.bool false) := by simp [World.cell?, k10, allC]
        have d2 : W2.cell? ⟨w.heap.size + 7, 17, none⟩ = some (.bool false) := by simp [World.cell?, k10, allC]
        have d3 : W2.cell? ⟨w.heap.size + 7, 18, none⟩ = some (.bool false) := by simp [World.cell?, k10, allC]
        have d4 : W2.cell? ⟨w.heap.size + 7, 19, none⟩ = some (.bool true) := by simp [World.cell?, k10, allC]
        go_wp2_with fail
        refine of_end rfl rfl rfl (by rw [set5 _ _ _ _ _ _ _ _ _ _ _ _ _ _ k2]; exact setRow_heap _ _ _ _ _ _ k2) (by kernel_rfl) ⟨by rfl, by rw [set5 _ _ _ _ _ _ _ _ _ _ _ _ _ _ k2]; exact below_setRow hb2 (Nat.le_refl _) _⟩
      · subst hk
        clear y1 h1 h2
        have d0 : W2.cell? ⟨w.heap.size + 7, 20, none⟩ = some (.bool true) := by simp [World.cell?, k10, allC]
        have d1 : W2.cell? ⟨w.heap.size + 7, 21, none⟩ = some (.bool false) := by simp [World.cell?, k10, allC]
        have d2 : W2.cell? ⟨w.heap.size + 7, 22, none⟩ = some (.bool true) := by simp [World.cell?, k10, allC]
        have d3 : W2.cell? ⟨w.heap.size + 7, 23, none⟩ = some (.bool false) := by simp [World.cell?, k10, allC]
        have d4 : W2.cell? ⟨w.heap.size + 7, 24, none⟩ = some (.bool false) := by simp [World.cell?, k10, allC]
        go_wp2_with fail
        refine of_end rfl rfl rfl (by rw [set5 _ _ _ _ _ _ _ _ _ _ _ _ _ _ k2]; exact setRow_heap _ _ _ _ _ _ k2) (by kernel_rfl) ⟨by rfl, by rw [set5 _ _ _ _ _ _ _ _ _ _ _ _ _ _ k2]; exact below_setRow hb2 (Nat.le_refl _) _⟩
      · subst hk
        clear y1 h1 h2
        have d0 : W2.cell? ⟨w.heap.size + 7, 25, none⟩ = some (.bool true) := by simp [World.cell?, k10, allC]
        have d1 : W2.cell? ⟨w.heap.size + 7, 26, none⟩ = some (.bool false) := by simp [World.cell?, k10, allC]
        have d2 : W2.cell? ⟨w.heap.size + 7, 27, none⟩ = some (.bool true) := by simp [World.cell?, k10, allC]
        have d3 : W2.cell? ⟨w.heap.size + 7, 28, none⟩ = some (.bool false) := by simp [World.cell?, k10, allC]
        have d4 : W2.cell? ⟨w.heap.size + 7, 29, none⟩ = some (.bool false) := by simp [World.cell?, k10, allC]
        go_wp2_with fail
        refine of_end rfl rfl rfl (by rw [set5 _ _ _ _ _ _ _ _ _ _ _ _ _ _ k2]; exact setRow_heap _ _ _ _ _ _ k2) (by kernel_rfl) ⟨by rfl, by rw [set5 _ _ _ _ _ _ _ _ _ _ _ _ _ _ k2]; exact below_setRow hb2 (Nat.le_refl _) _⟩
      · subst hk
        clear y1 h1 h2
        have d0 : W2.cell? ⟨w.heap.size + 7, 30, none⟩ = some (.bool true) := by simp [World.cell?, k10, allC]
        have d1 : W2.cell? ⟨w.heap.size + 7, 31, none⟩ = some (.bool false) := by simp [World.cell?, k10, allC]
        have d2 : W2.cell? ⟨w.heap.size + 7, 32, none⟩ = some (.bool true) := by simp [World.cell?, k10, allC]
        have d3 : W2.cell? ⟨w.heap.size + 7, 33, none⟩ = some (.bool true) := by simp [World.cell?, k10, allC]
        have d4 : W2.cell? ⟨w.heap.size + 7, 34, none⟩ = some (.bool false) := by simp [World.cell?, k10, allC]
        go_wp2_with fail
        refine of_end rfl rfl rfl (by rw [set5 _ _ _ _ _ _ _ _ _ _ _ _ _ _ k2]; exact setRow_heap _ _ _ _ _ _ k2) (by kernel_rfl) ⟨by rfl, by rw [set5 _ _ _ _ _ _ _ _ _ _ _ _ _ _ k2]; exact below_setRow hb2 (Nat.le_refl _) _⟩
      · subst hk
        clear y1 h1 h2
        have d0 : W2.cell? ⟨w.heap.size + 7, 35, none⟩ = some (.bool true) := by simp [World.cell?, k10, allC]
        have d1 : W2.cell? ⟨w.heap.size + 7, 36, none⟩ = some (.bool false) := by simp [World.cell?, k10, allC]
        have d2 : W2.cell? ⟨w.heap.size + 7, 37, none⟩ = some (.bool false) := by simp [World.cell?, k10, allC]
        have d3 : W2.cell? ⟨w.heap.size + 7, 38, none⟩ = some (.bool true) := by simp [World.cell?, k10, allC]
        have d4 : W2.cell? ⟨w.heap.size + 7, 39, none⟩ = some (.bool false) := by simp [World.cell?, k10, allC]
        go_wp2_with fail
        refine of_end rfl rfl rfl (by rw [set5 _ _ _ _ _ _ _ _ _ _ _ _ _ _ k2]; exact setRow_heap _ _ _ _ _ _ k2) (by kernel_rfl) ⟨by rfl, by rw [set5 _ _ _ _ _ _ _ _ _ _ _ _ _ _ k2]; exact below_setRow hb2 (Nat.le_refl _) _⟩
      · subst hk
        clear y1 h1 h2
        have d0 : W2.cell? ⟨w.heap.size + 7, 40, none⟩ = some (.bool false) := by simp [World.cell?, k10, allC]
        have d1 : W2.cell? ⟨w.heap.size + 7, 41, none⟩ = some (.bool true) := by simp [World.cell?, k10, allC]
        have d2 : W2.cell? ⟨w.heap.size + 7, 42, none⟩ = some (.bool true) := by simp [World.cell?, k10, allC]
        have d3 : W2.cell? ⟨w.heap.size + 7, 43, none⟩ = some (.bool false) := by simp [World.cell?, k10, allC]
        have d4 : W2.cell? ⟨w.heap.size + 7, 44, none⟩ = some (.bool false) := by simp [World.cell?, k10, allC]
        go_wp2_with fail
        refine of_end rfl rfl rfl (by rw [set5 _ _ _ _ _ _ _ _ _ _ _ _ _ _ k2]; exact setRow_heap _ _ _ _ _ _ k2) (by kernel_rfl) ⟨by rfl, by rw [set5 _ _ _ _ _ _ _ _ _ _ _ _ _ _ k2]; exact below_setRow hb2 (Nat.le_refl _) _⟩
      · subst hk
        clear y1 h1 h2
        have d0 : W2.cell? ⟨w.heap.size + 7, 45, none⟩ = some (.bool true) := by simp [World.cell?, k10, allC]
        have d1 : W2.cell? ⟨w.heap.size + 7, 46, none⟩ = some (.bool true) := by simp [World.cell?, k10, allC]
        have d2 : W2.cell? ⟨w.heap.size + 7, 47, none⟩ = some (.bool true) := by simp [World.cell?, k10, allC]
        have d3 : W2.cell? ⟨w.heap.size + 7, 48, none⟩ = some (.bool false) := by simp [World.cell?, k10, allC]
        have d4 : W2.cell? ⟨w.heap.size + 7, 49, none⟩ = some (.bool false) := by simp [World.cell?, k10, allC]
        go_wp2_with fail
        refine of_end rfl rfl rfl (by rw [set5 _ _ _ _ _ _ _ _ _ _ _ _ _ _ k2]; exact setRow_heap _ _ _ _ _ _ k2) (by kernel_rfl) ⟨by rfl, by rw [set5 _ _ _ _ _ _ _ _ _ _ _ _ _ _ k2]; exact below_setRow hb2 (Nat.le_refl _) _⟩
      · subst hk
        clear y1 h1 h2
        have d0 : W2.cell? ⟨w.heap.size + 7, 50, none⟩ = some (.bool true) := by simp [World.cell?, k10, allC]
        have d1 : W2.cell? ⟨w.heap.size + 7, 51, none⟩ = some (.bool true) := by simp [World.cell?, k10, allC]
        have d2 : W2.cell? ⟨w.heap.size + 7, 52, none⟩ = some (.bool false) := by simp [World.cell?, k10, allC]
        have d3 : W2.cell? ⟨w.heap.size + 7, 53, none⟩ = some (.bool true) := by simp [World.cell?, k10, allC]
        have d4 : W2.cell? ⟨w.heap.size + 7, 54, none⟩ = some (.bool false) := by simp [World.cell?, k10, allC]
        go_wp2_with fail
        refine of_end rfl rfl rfl (by rw [set5 _ _ _ _ _ _ _ _ _ _ _ _ _ _ k2]; exact setRow_heap _ _ _ _ _ _ k2) (by kernel_rfl) ⟨by rfl, by rw [set5 _ _ _ _ _ _ _ _ _ _ _ _ _ _ k2]; exact below_setRow hb2 (Nat.le_refl _) _⟩
      · subst hk
        clear y1 h1 h2
        have d0 : W2.cell? ⟨w.heap.size + 7, 55, none⟩ = some (.bool false) := by simp [World.cell?, k10, allC]
        have d1 : W2.cell? ⟨w.heap.size + 7, 56, none⟩ = some (.bool true) := by simp [World.cell?, k10, allC]
        have d2 : W2.cell? ⟨w.heap.size + 7, 57, none⟩ = some (.bool true) := by simp [World.cell?, k10, allC]
        have d3 : W2.cell? ⟨w.heap.size + 7, 58, none⟩ = some (.bool false) := by simp [World.cell?, k10, allC]
        have d4 : W2.cell? ⟨w.heap.size + 7, 59, none⟩ = some (.bool false) := by simp [World.cell?, k10, allC]
        go_wp2_with fail
        refine of_end rfl rfl rfl (by rw [set5 _ _ _ _ _ _ _ _ _ _ _ _ _ _ k2]; exact setRow_heap _ _ _ _ _ _ k2) (by kernel_rfl) ⟨by rfl, by rw [set5 _ _ _ _ _ _ _ _ _ _ _ _ _ _ k2]; exact below_setRow hb2 (Nat.le_refl _) _⟩
      · subst hk
        clear y1 h1 h2
        have d0 : W2.cell? ⟨w.heap.size + 7, 60, none⟩ = some (.bool true) := by simp [World.cell?, k10, allC]
        have d1 : W2.cell? ⟨w.heap.size + 7, 61, none⟩ = some (.bool false) := by simp [World.cell?, k10, allC]
        have d2 : W2.cell? ⟨w.heap.size + 7, 62, none⟩ = some (.bool false) := by simp [World.cell?, k10, allC]
        have d3 : W2.cell? ⟨w.heap.size + 7, 63, none⟩ = some (.bool false) := by simp [World.cell?, k10, allC]
        have d4 : W2.cell? ⟨w.heap.size + 7, 64, none⟩ = some (.bool false) := by simp [World.cell?, k10, allC]
        go_wp2_with fail
        refine of_end rfl rfl rfl (by rw [set5 _ _ _ _ _ _ _ _ _ _ _ _ _ _ k2]; exact setRow_heap _ _ _ _ _ _ k2) (by kernel_rfl) ⟨by rfl, by rw [set5 _ _ _ _ _ _ _ _ _ _ _ _ _ _ k2]; exact below_setRow hb2 (Nat.le_refl _) _⟩
      · subst hk
        clear y1 h1 h2
        have d0 : W2.cell? ⟨w.heap.size + 7, 65, none⟩ = some (.bool true) := by simp [World.cell?, k10, allC]
        have d1 : W2.cell? ⟨w.heap.size + 7, 66, none⟩ = some (.bool true) := by simp [World.cell?, k10, allC]
        have d2 : W2.cell? ⟨w.heap.size + 7, 67, none⟩ = some (.bool true) := by simp [World.cell?, k10, allC]
        have d3 : W2.cell? ⟨w.heap.size + 7, 68, none⟩ = some (.bool false) := by simp [World.cell?, k10, allC]
        have d4 : W2.cell? ⟨w.heap.size + 7, 69, none⟩ = some (.bool false) := by simp [World.cell?, k10, allC]
        go_wp2_with fail
        refine of_end rfl rfl rfl (by rw [set5 _ _ _ _ _ _ _ _ _ _ _ _ _ _ k2]; exact setRow_heap _ _ _ _ _ _ k2) (by kernel_rfl) ⟨by rfl, by rw [set5 _ _ _ _ _ _ _ _ _ _ _ _ _ _ k2]; exact below_setRow hb2 (Nat.le_refl _) _⟩
      · subst hk
        clear y1 h1 h2
        have d0 : W2.cell? ⟨w.heap.size + 7, 70, none⟩ = some (.bool false) := by simp [World.cell?, k10, allC]
        have d1 : W2.cell? ⟨w.heap.size + 7, 71, none⟩ = some (.bool false) := by simp [World.cell?, k10, allC]
        have d2 : W2.cell? ⟨w.heap.size + 7, 72, none⟩ = some (.bool true) := by simp [World.cell?, k10, allC]
        have d3 : W2.cell? ⟨w.heap.size + 7, 73, none⟩ = some (.bool false) := by simp [World.cell?, k10, allC]
        have d4 : W2.cell? ⟨w.heap.size + 7, 74, none⟩ = some (.bool false) := by simp [World.cell?, k10, allC]
        go_wp2_with fail
        refine of_end rfl rfl rfl (by rw [set5 _ _ _ _ _ _ _ _ _ _ _ _ _ _ k2]; exact setRow_heap _ _ _ _ _ _ k2) (by kernel_rfl) ⟨by rfl, by rw [set5 _ _ _ _ _ _ _ _ _ _ _ _ _ _ k2]; exact below_setRow hb2 (Nat.le_refl _) _⟩
      · subst hk
        clear y1 h1 h2
        have d0 : W2.cell? ⟨w.heap.size + 7, 75, none⟩ = some (.bool true) := by simp [World.cell?, k10, allC]
        have d1 : W2.cell? ⟨w.heap.size + 7, 76, none⟩ = some (.bool false) := by simp [World.cell?, k10, allC]
        have d2 : W2.cell? ⟨w.heap.size + 7, 77, none⟩ = some (.bool false) := by simp [World.cell?, k10, allC]
        have d3 : W2.cell? ⟨w.heap.size + 7, 78, none⟩ = some (.bool true) := by simp [World.cell?, k10, allC]
        have d4 : W2.cell? ⟨w.heap.size + 7, 79, none⟩ = some (.bool false) := by simp [World.cell?, k10, allC]
        go_wp2_with fail
        refine of_end rfl rfl rfl (by rw [set5 _ _ _ _ _ _ _ _ _ _ _ _ _ _ k2]; exact setRow_heap _ _ _ _ _ _ k2) (by kernel_rfl) ⟨by rfl, by rw [set5 _ _ _ _ _ _ _ _ _ _ _ _ _ _ k2]; exact below_setRow hb2 (Nat.le_refl _) _⟩
      · subst hk
        clear y1 h1 h2
        have d0 : W2.cell? ⟨w.heap.size + 7, 80, none⟩ = some (.bool false) := by simp [World.cell?, k10, allC]
        have d1 : W2.cell? ⟨w.heap.size + 7, 81, none⟩ = some (.bool false) := by simp [World.cell?, k10, allC]
        have d2 : W2.cell? ⟨w.heap.size + 7, 82, none⟩ = some (.bool true) := by simp [World.cell?, k10, allC]
        have d3 : W2.cell? ⟨w.heap.size + 7, 83, none⟩ = some (.bool false) := by simp [World.cell?, k10, allC]
        have d4 : W2.cell? ⟨w.heap.size + 7, 84, none⟩ = some (.bool false) := by simp [World.cell?, k10, allC]
        go_wp2_with fail
        refine of_end rfl rfl rfl (by rw [set5 _ _ _ _ _ _ _ _ _ _ _ _ _ _ k2]; exact setRow_heap _ _ _ _ _ _ k2) (by kernel_rfl) ⟨by rfl, by rw [set5 _ _ _ _ _ _ _ _ _ _ _ _ _ _ k2]; exact below_setRow hb2 (Nat.le_refl _) _⟩
end Go.Proofs.YtjiaoppefinljaaGreatDoor.Pk

/- Contracts of requests' bytes: the check. -/
namespace Go.Proofs.YtjiaoppefinljaaGreatDoor.Pk
open Go.RowKit
set_option maxRecDepth 100000
set_option maxHeartbeats 4000000 in
theorem check1_any (s : List UInt8) (has k : Bool) (g : Nat) (w : World) (hc : w.cell? ⟨g, 0, none⟩ = some (.bool k)) (hf : w.frozen? ⟨g, 0, none⟩ = false) :
    Calls Tryz.prog 36 #[.string (bs s), .bool has, .pointer (some ⟨g, 0, none⟩)] w fun e w' => e = .returned (.tuple #[]) ∧ w' = w.setCell ⟨g, 0, none⟩ (.bool (k && fitText s has)) := by
  cases k with
  | false =>
    go_enter Tryz.func36, Tryz.ntmps36
    go_wp2_with fail
    refine Go.Great.bodyPost_end0 rfl rfl ?_
    exact ⟨rfl, rfl⟩
  | true =>
    go_enter Tryz.func36, Tryz.ntmps36
    go_wp2_with fail
    · refine Go.Great.bodyPost_end0 rfl rfl ?_
      refine ⟨rfl, ?_⟩
      rename_i hh
      rw [bs_empty] at hh
      congr 2
      simp only [fitText, hh, beq_self_eq_true, Bool.true_and, bs_size]
      exact decide_eq_decide.2 (by omega)
    · refine Go.Great.bodyPost_end0 rfl rfl ?_
      refine ⟨rfl, ?_⟩
      rename_i hh
      rw [bs_empty] at hh
      congr 2
      have : (has == !s.isEmpty) = false := beq_false_of_ne hh
      simp only [fitText, this, Bool.false_and, Bool.and_false]
end Go.Proofs.YtjiaoppefinljaaGreatDoor.Pk

/- Contracts of requests' bytes: the check. -/
namespace Go.Proofs.YtjiaoppefinljaaGreatDoor.Pk
open Go.RowKit
set_option maxRecDepth 100000
theorem bs_nil {s : List UInt8} (h : (bs s).toList = []) : s = [] := by
  have h2 := bs_empty s
  rw [h] at h2
  exact List.isEmpty_iff.1 h2.symm
/-- a request as the program holds it -/
def Rq.val (r : Rq) : Value := .agg #[.int .i64 r.kind, .int .i64 r.purpose, .string (bs r.source), .string (bs r.mail), .string (bs r.other), .string (bs r.secret), .string (bs r.password)]
/-- what the check holds between the calls of its closure -/
structure Chk (r : Rq) (p1 p2 p3 p4 p5 : Bool) (w W : World) (N : Nat) (k : Bool) : Prop where
  q0 : W.cell? ⟨w.heap.size, 0, none⟩ = some (.int .i64 r.kind)
  q1 : W.cell? ⟨w.heap.size, 1, none⟩ = some (.int .i64 r.purpose)
  q2 : W.cell? ⟨w.heap.size, 2, none⟩ = some (.string (bs r.source))
  q3 : W.cell? ⟨w.heap.size, 3, none⟩ = some (.string (bs r.mail))
  q4 : W.cell? ⟨w.heap.size, 4, none⟩ = some (.string (bs r.other))
  q5 : W.cell? ⟨w.heap.size, 5, none⟩ = some (.string (bs r.secret))
  q6 : W.cell? ⟨w.heap.size, 6, none⟩ = some (.string (bs r.password))
  c0 : W.cell? ⟨N, 0, none⟩ = some (.bool p1)
  c1 : W.cell? ⟨N, 1, none⟩ = some (.bool p2)
  c2 : W.cell? ⟨N, 2, none⟩ = some (.bool p3)
  c3 : W.cell? ⟨N, 3, none⟩ = some (.bool p4)
  c4 : W.cell? ⟨N, 4, none⟩ = some (.bool p5)
  ok : W.cell? ⟨N + 1, 0, none⟩ = some (.bool k)
  fz : W.frozen? ⟨N + 1, 0, none⟩ = false
  lo : w.heap.size < N
  below : Below w.heap.size w W
theorem Chk.set {r : Rq} {p1 p2 p3 p4 p5 : Bool} {w W : World} {N : Nat} {k : Bool} (h : Chk r p1 p2 p3 p4 p5 w W N k) (k2 : Bool) : Chk r p1 p2 p3 p4 p5 w (W.setCell ⟨N + 1, 0, none⟩ (.bool k2)) N k2 := by
  have hlo := h.lo
  refine ⟨(World.cell?_setCell_other _ _ _ _ (fun e => by have := congrArg Addr.block e; simp at this; try omega)).trans h.q0, (World.cell?_setCell_other _ _ _ _ (fun e => by have := congrArg Addr.block e; simp at this; try omega)).trans h.q1, (World.cell?_setCell_other _ _ _ _ (fun e => by have := congrArg Addr.block e; simp at this; try omega)).trans h.q2, (World.cell?_setCell_other _ _ _ _ (fun e => by have := congrArg Addr.block e; simp at this; try omega)).trans h.q3, (World.cell?_setCell_other _ _ _ _ (fun e => by have := congrArg Addr.block e; simp at this; try omega)).trans h.q4, (World.cell?_setCell_other _ _ _ _ (fun e => by have := congrArg Addr.block e; simp at this; try omega)).trans h.q5, (World.cell?_setCell_other _ _ _ _ (fun e => by have := congrArg Addr.block e; simp at this; try omega)).trans h.q6, (World.cell?_setCell_other _ _ _ _ (fun e => by have := congrArg Addr.block e; simp at this; try omega)).trans h.c0, (World.cell?_setCell_other _ _ _ _ (fun e => by have := congrArg Addr.block e; simp at this; try omega)).trans h.c1, (World.cell?_setCell_other _ _ _ _ (fun e => by have := congrArg Addr.block e; simp at this; try omega)).trans h.c2, (World.cell?_setCell_other _ _ _ _ (fun e => by have := congrArg Addr.block e; simp at this; try omega)).trans h.c3, (World.cell?_setCell_other _ _ _ _ (fun e => by have := congrArg Addr.block e; simp at this; try omega)).trans h.c4, World.cell?_setCell_same _ _ _ h.ok, by rw [World.frozen?_setCell]; exact h.fz, h.lo, h.below.setCell (by show w.heap.size ≤ N + 1; omega) _⟩
set_option maxHeartbeats 4000000 in
theorem Check_any (r : Rq) (w : World) : Calls Tryz.prog 16 #[r.val] w fun e w' => e = .returned (.bool (checkR r)) ∧ Below w.heap.size w w' := by
  have hof := fun W => of_any r.kind W
  unfold Rq.val
  unfold checkR
  generalize parts r.kind = p at hof ⊢
  generalize decide (1 ≤ r.kind ∧ r.kind ≤ 16) = k at hof ⊢
  obtain ⟨p1, p2, p3, p4, p5⟩ := p
  go_enter Tryz.func16, Tryz.ntmps16
  go_wp2_with fail
  go_at_call 35
  refine (hof _).mono ?_
  rintro e w1 ⟨rfl, hb1⟩
  have hsz : w.heap.size + 1 ≤ w1.heap.size := by have := hb1.size; simpa using this
  have hBw : Below w.heap.size w w1 := ((Below.refl w.heap.size w).alloc (Nat.le_refl _) _).trans (hb1.mono (by simp))
  have q0 : w1.cell? ⟨w.heap.size, 0, none⟩ = some (.int .i64 r.kind) := by rw [hb1.cell (p := ⟨w.heap.size, 0, none⟩) (by simp)]; unfold World.cell?; rw [heap_alloc_new]; rfl
  have q1 : w1.cell? ⟨w.heap.size, 1, none⟩ = some (.int .i64 r.purpose) := by rw [hb1.cell (p := ⟨w.heap.size, 1, none⟩) (by simp)]; unfold World.cell?; rw [heap_alloc_new]; rfl
  have q2 : w1.cell? ⟨w.heap.size, 2, none⟩ = some (.string (bs r.source)) := by rw [hb1.cell (p := ⟨w.heap.size, 2, none⟩) (by simp)]; unfold World.cell?; rw [heap_alloc_new]; rfl
  have q3 : w1.cell? ⟨w.heap.size, 3, none⟩ = some (.string (bs r.mail)) := by rw [hb1.cell (p := ⟨w.heap.size, 3, none⟩) (by simp)]; unfold World.cell?; rw [heap_alloc_new]; rfl
  have q4 : w1.cell? ⟨w.heap.size, 4, none⟩ = some (.string (bs r.other)) := by rw [hb1.cell (p := ⟨w.heap.size, 4, none⟩) (by simp)]; unfold World.cell?; rw [heap_alloc_new]; rfl
  have q5 : w1.cell? ⟨w.heap.size, 5, none⟩ = some (.string (bs r.secret)) := by rw [hb1.cell (p := ⟨w.heap.size, 5, none⟩) (by simp)]; unfold World.cell?; rw [heap_alloc_new]; rfl
  have q6 : w1.cell? ⟨w.heap.size, 6, none⟩ = some (.string (bs r.password)) := by rw [hb1.cell (p := ⟨w.heap.size, 6, none⟩) (by simp)]; unfold World.cell?; rw [heap_alloc_new]; rfl
  clear hb1 hof
  have z1 : w.heap.size ≠ w1.heap.size := by omega
  have z2 : w.heap.size ≠ w1.heap.size + 1 := by omega
  have z3 : w.heap.size < w1.heap.size := by omega
  unfold partsV
  go_wp2_with fail
  have h0 : Chk r p1 p2 p3 p4 p5 w ((w1.alloc (.cells #[.bool p1, .bool p2, .bool p3, .bool p4, .bool p5] 89)).alloc (.cells #[.bool k] 4)) w1.heap.size k := by
    have e1 : ∀ (a : Addr), a.block < w1.heap.size → ((w1.alloc (.cells #[.bool p1, .bool p2, .bool p3, .bool p4, .bool p5] 89)).alloc (.cells #[.bool k] 4)).cell? a = w1.cell? a := fun a ha => by
      have hb : Below w1.heap.size w1 ((w1.alloc (.cells #[.bool p1, .bool p2, .bool p3, .bool p4, .bool p5] 89)).alloc (.cells #[.bool k] 4)) := ((Below.refl _ w1).alloc (Nat.le_refl _) _).alloc (by simp) _
      exact hb.cell ha
    have e2 : ((w1.alloc (.cells #[.bool p1, .bool p2, .bool p3, .bool p4, .bool p5] 89)).alloc (.cells #[.bool k] 4)).heap[w1.heap.size]? = some (.cells #[.bool p1, .bool p2, .bool p3, .bool p4, .bool p5] 89 (0, 0)) := by
      rw [heap_alloc_get, if_neg (by simp), heap_alloc_get, if_pos rfl]
    have e3 : ((w1.alloc (.cells #[.bool p1, .bool p2, .bool p3, .bool p4, .bool p5] 89)).alloc (.cells #[.bool k] 4)).heap[w1.heap.size + 1]? = some (.cells #[.bool k] 4 (0, 0)) := by
      rw [heap_alloc_get, if_pos (by simp)]
    refine ⟨(e1 _ z3).trans q0, (e1 _ z3).trans q1, (e1 _ z3).trans q2, (e1 _ z3).trans q3, (e1 _ z3).trans q4, (e1 _ z3).trans q5, (e1 _ z3).trans q6, by unfold World.cell?; rw [e2]; rfl, by unfold World.cell?; rw [e2]; rfl, by unfold World.cell?; rw [e2]; rfl, by unfold World.cell?; rw [e2]; rfl, by unfold World.cell?; rw [e2]; rfl, by unfold World.cell?; rw [e3]; rfl, by unfold World.frozen?; rw [e3]; rfl, z3, (hBw.alloc (Nat.le_of_lt z3) _).alloc (by simp; omega) _⟩
  clear q0 q1 q2 q3 q4 q5 q6 hBw hsz z1 z2 z3
  refine (check1_any r.mail p1 (k) (w1.heap.size + 1) _ h0.ok h0.fz).mono ?_
  rintro e W1 ⟨rfl, hW1⟩
  have h1 := h0.set (k && fitText r.mail p1)
  rw [← hW1] at h1
  clear hW1 h0
  have ⟨q0, q1, q2, q3, q4, q5, q6, c0, c1, c2, c3, c4, ok, fz, lo, hB⟩ := h1
  go_wp2_with fail
  clear q0 q1 q2 q3 q4 q5 q6 c0 c1 c2 c3 c4 ok fz lo hB
  refine (check1_any r.other p2 (k && fitText r.mail p1) (w1.heap.size + 1) _ h1.ok h1.fz).mono ?_
  rintro e W2 ⟨rfl, hW2⟩
  have h2 := h1.set (k && fitText r.mail p1 && fitText r.other p2)
  rw [← hW2] at h2
  clear hW2 h1
  have ⟨q0, q1, q2, q3, q4, q5, q6, c0, c1, c2, c3, c4, ok, fz, lo, hB⟩ := h2
  go_wp2_with fail
  clear q0 q1 q2 q3 q4 q5 q6 c0 c1 c2 c3 c4 ok fz lo hB
  refine (check1_any r.secret p3 (k && fitText r.mail p1 && fitText r.other p2) (w1.heap.size + 1) _ h2.ok h2.fz).mono ?_
  rintro e W3 ⟨rfl, hW3⟩
  have h3 := h2.set (k && fitText r.mail p1 && fitText r.other p2 && fitText r.secret p3)
  rw [← hW3] at h3
  clear hW3 h2
  have ⟨q0, q1, q2, q3, q4, q5, q6, c0, c1, c2, c3, c4, ok, fz, lo, hB⟩ := h3
  go_wp2_with fail
  clear q0 q1 q2 q3 q4 q5 q6 c0 c1 c2 c3 c4 ok fz lo hB
  refine (check1_any r.password p4 (k && fitText r.mail p1 && fitText r.other p2 && fitText r.secret p3) (w1.heap.size + 1) _ h3.ok h3.fz).mono ?_
  rintro e W4 ⟨rfl, hW4⟩
  have h4 := h3.set (k && fitText r.mail p1 && fitText r.other p2 && fitText r.secret p3 && fitText r.password p4)
  rw [← hW4] at h4
  clear hW4 h3
  have ⟨q0, q1, q2, q3, q4, q5, q6, c0, c1, c2, c3, c4, ok, fz, lo, hB⟩ := h4
  generalize hK : (k && fitText r.mail p1 && fitText r.other p2 && fitText r.secret p3 && fitText r.password p4) = K at ok
  clear h4
  have hK2 := Lib.hid hK
  clear hK
  cases p5 with
  | true =>
    cases K with
    | false =>
      go_wp2_with fail
      go_ret
      refine ⟨?_, hB⟩
      rw [hK2.out]
      show Ending.returned (.bool _) = Ending.returned (.bool _)
      clear q0 q1 q2 q3 q4 q5 q6 c0 c1 c2 c3 c4 ok fz lo hB hK2
      simp
    | true =>
      go_wp2_with fail
      all_goals go_ret
      all_goals refine ⟨?_, hB⟩
      all_goals rw [hK2.out]
      all_goals show Ending.returned (.bool _) = Ending.returned (.bool _)
      all_goals clear q0 q1 q2 q3 q4 q5 q6 c0 c1 c2 c3 c4 ok fz lo hB hK2
      all_goals congr 2
      all_goals try simp only [bs_empty, bs_size]
      all_goals first | (rw [Bool.true_and]; congr 1; exact decide_eq_decide.2 (by omega)) | (rename_i hh; have hs : r.source = [] := bs_nil hh; simp [hs]; done) | (rename_i hh _; have hs : r.source = [] := bs_nil hh; simp [hs]; done) | (simp_all; done) | (simp_all; omega)
  | false =>
    cases K with
    | false =>
      go_wp2_with fail
      go_ret
      refine ⟨?_, hB⟩
      rw [hK2.out]
      show Ending.returned (.bool _) = Ending.returned (.bool _)
      clear q0 q1 q2 q3 q4 q5 q6 c0 c1 c2 c3 c4 ok fz lo hB hK2
      simp
    | true =>
      go_wp2_with fail
      all_goals go_ret
      all_goals refine ⟨?_, hB⟩
      all_goals rw [hK2.out]
      all_goals show Ending.returned (.bool _) = Ending.returned (.bool _)
      all_goals clear q0 q1 q2 q3 q4 q5 q6 c0 c1 c2 c3 c4 ok fz lo hB hK2
      all_goals congr 2
      all_goals try simp only [bs_empty, bs_size]
      all_goals first | (rw [Bool.true_and]; congr 1; exact decide_eq_decide.2 (by omega)) | (rename_i hh; have hs : r.source = [] := bs_nil hh; simp [hs]; done) | (rename_i hh _; have hs : r.source = [] := bs_nil hh; simp [hs]; done) | (simp_all; done) | (simp_all; omega)
end Go.Proofs.YtjiaoppefinljaaGreatDoor.Pk

/- Contracts of requests' bytes: the reading. -/
namespace Go.Proofs.YtjiaoppefinljaaGreatDoor.Pk
open Go.RowKit
set_option maxRecDepth 100000
/-- what the reading holds between its calls: the request's row, the reader, what else turned -/
structure Rst (w W : World) (v : List Value) (r : Rd) : Prop where
  row : W.heap[w.heap.size]? = some (.cells v.toArray 25 (0, 0))
  rd : RdAt W (w.heap.size + 1) r
  size : w.heap.size + 2 ≤ W.heap.size
  below : Below w.heap.size w W
theorem Keep.below {S : List Nat} {B : Nat} {w W X : World} (h : Below B w W) (k : Keep S W X) (hS : ∀ b ∈ S, B ≤ b) (hB : B ≤ W.heap.size) : Below B w X :=
  h.trans ⟨k.os, k.tape, k.output, k.size, fun b hb => k.block b (by omega) (fun hm => by have := hS b hm; omega)⟩
theorem Rst.read {w W X : World} {v : List Value} {r r2 : Rd} (h : Rst w W v r) (hr : RdAt X (w.heap.size + 1) r2) (k : Keep [w.heap.size + 1] W X) : Rst w X v r2 :=
  ⟨(k.block _ (by have := h.size; omega) (by simp)).trans h.row, hr, Nat.le_trans h.size k.size, Keep.below h.below k (by simp) (by have := h.size; omega)⟩
theorem Rst.cell {w W : World} {v : List Value} {r : Rd} (h : Rst w W v r) {M : Nat} (hM : w.heap.size + 2 ≤ M) (i : Nat) (x : Value) : Rst w (W.setCell ⟨M, i, none⟩ x) v r :=
  ⟨(Below.heap_setCell _ _ _ _ (by show _ ≠ M; omega)).trans h.row, (Below.heap_setCell _ _ _ _ (by show _ ≠ M; omega)).trans h.rd, by rw [show (W.setCell ⟨M, i, none⟩ x).heap.size = W.heap.size from by simp [World.setCell]]; exact h.size, h.below.setCell (by show w.heap.size ≤ M; omega) _⟩
theorem set234 (W : World) (g : Nat) (x0 x1 x2 x3 x4 x5 x6 a b c : Value) (t : TypeId) (fr : Nat × Nat) (h : W.heap[g]? = some (.cells #[x0, x1, x2, x3, x4, x5, x6] t fr)) :
    (((W.setCell ⟨g, 2, none⟩ a).setCell ⟨g, 3, none⟩ b).setCell ⟨g, 4, none⟩ c).heap[g]? = some (.cells #[x0, x1, a, b, c, x5, x6] t fr) := by
  rw [setCell_eq_setRow W g 2 _ t fr a h]
  have h1 := setRow_heap W g _ (#[x0, x1, x2, x3, x4, x5, x6].setIfInBounds 2 a) t fr h
  rw [setCell_eq_setRow _ g 3 _ t fr b h1, setRow_setRow]
  have h2 := setRow_heap W g _ ((#[x0, x1, x2, x3, x4, x5, x6].setIfInBounds 2 a).setIfInBounds 3 b) t fr h
  rw [setCell_eq_setRow _ g 4 _ t fr c h2, setRow_setRow]
  exact setRow_heap W g _ _ t fr h
theorem set56 (W : World) (g : Nat) (x0 x1 x2 x3 x4 x5 x6 a b : Value) (t : TypeId) (fr : Nat × Nat) (h : W.heap[g]? = some (.cells #[x0, x1, x2, x3, x4, x5, x6] t fr)) :
    ((W.setCell ⟨g, 5, none⟩ a).setCell ⟨g, 6, none⟩ b).heap[g]? = some (.cells #[x0, x1, x2, x3, x4, a, b] t fr) := by
  rw [setCell_eq_setRow W g 5 _ t fr a h]
  have h1 := setRow_heap W g _ (#[x0, x1, x2, x3, x4, x5, x6].setIfInBounds 5 a) t fr h
  rw [setCell_eq_setRow _ g 6 _ t fr b h1, setRow_setRow]
  exact setRow_heap W g _ _ t fr h
set_option maxHeartbeats 4000000 in
theorem set7 (W : World) (p : Nat) (x0 x1 x2 x3 x4 x5 x6 a b c d e f g : Value) (t : TypeId) (fr : Nat × Nat) (h : W.heap[p]? = some (.cells #[x0, x1, x2, x3, x4, x5, x6] t fr)) :
    (((((((W.setCell ⟨p, 0, none⟩ a).setCell ⟨p, 1, none⟩ b).setCell ⟨p, 2, none⟩ c).setCell ⟨p, 3, none⟩ d).setCell ⟨p, 4, none⟩ e).setCell ⟨p, 5, none⟩ f).setCell ⟨p, 6, none⟩ g).heap[p]? = some (.cells #[a, b, c, d, e, f, g] t fr) := by
  rw [setCell_eq_setRow W p 0 _ t fr a h]
  have h0 := setRow_heap W p _ (#[x0, x1, x2, x3, x4, x5, x6].setIfInBounds 0 a) t fr h
  rw [setCell_eq_setRow _ p 1 _ t fr b h0, setRow_setRow]
  have h1 := setRow_heap W p _ ((#[x0, x1, x2, x3, x4, x5, x6].setIfInBounds 0 a).setIfInBounds 1 b) t fr h
  rw [setCell_eq_setRow _ p 2 _ t fr c h1, setRow_setRow]
  have h2 := setRow_heap W p _ (((#[x0, x1, x2, x3, x4, x5, x6].setIfInBounds 0 a).setIfInBounds 1 b).setIfInBounds 2 c) t fr h
  rw [setCell_eq_setRow _ p 3 _ t fr d h2, setRow_setRow]
  have h3 := setRow_heap W p _ ((((#[x0, x1, x2, x3, x4, x5, x6].setIfInBounds 0 a).setIfInBounds 1 b).setIfInBounds 2 c).setIfInBounds 3 d) t fr h
  rw [setCell_eq_setRow _ p 4 _ t fr e h3, setRow_setRow]
  have h4 := setRow_heap W p _ (((((#[x0, x1, x2, x3, x4, x5, x6].setIfInBounds 0 a).setIfInBounds 1 b).setIfInBounds 2 c).setIfInBounds 3 d).setIfInBounds 4 e) t fr h
  rw [setCell_eq_setRow _ p 5 _ t fr f h4, setRow_setRow]
  have h5 := setRow_heap W p _ ((((((#[x0, x1, x2, x3, x4, x5, x6].setIfInBounds 0 a).setIfInBounds 1 b).setIfInBounds 2 c).setIfInBounds 3 d).setIfInBounds 4 e).setIfInBounds 5 f) t fr h
  rw [setCell_eq_setRow _ p 6 _ t fr g h5, setRow_setRow]
  exact setRow_heap W p _ _ t fr h
set_option maxHeartbeats 4000000 in
theorem wireRead_end {a : Act} {w : World} {R : Ending → World → Prop} {cs : Array Value} {fr : Nat × Nat} {t : TypeId} {g : Nat} {b : Value} (hd : a.defers = []) (hp : a.tmps.getD 2 undef = .pointer (some ⟨g, 0, none⟩)) (h3 : a.tmps.getD 3 undef = b)
    (hg : w.heap[g]? = some (.cells cs t fr)) (hi : (Tryz.prog.info? 25).map (·.size) = some cs.size) (hR : R (.returned (.tuple #[.agg cs, b])) w) : bodyPost Tryz.prog Tryz.f5 R .ret a w := by
  refine bodyPost_ret (v := .tuple #[.agg cs, b]) ?_ hd hR
  rw [results_cell_tmp (p := 2) (u := 3) (ty := 25) rfl, hp, h3]
  simp only [asAddr, Sem.run_pure, Result.andThen_ok, run_loadVar_row w g t 25 cs fr _ hg Tryz.underlying25 rfl hi]
/-- what Read answers -/
def readV (s : List UInt8) : Value := .tuple #[((readR s).getD ⟨0, 0, [], [], [], [], []⟩).val, .int .i64 (if (readR s).isSome then 0 else 10)]
def noRq : Rq := ⟨0, 0, [], [], [], [], []⟩
set_option maxHeartbeats 4000000 in
theorem wireRead_any (s : List UInt8) (hs : s.length ≤ maxLen) (w : World) :
    Calls Tryz.prog 5 #[.string (bs s)] w fun e w' => e = .returned (readV s) ∧ Below w.heap.size w w' := by
  go_enter Tryz.func5, Tryz.ntmps5
  go_wp2_with fail
  go_at_call 12
  refine (Read_any _ _).mono ?_
  rintro e w1 ⟨rfl, hw1⟩
  subst hw1
  have h0 : Rst w ((w.alloc (.cells #[.int .i64 0, .int .i64 0, .string { data := #[] }, .string { data := #[] }, .string { data := #[] }, .string { data := #[] }, .string { data := #[] }] 25)).alloc (.cells #[.string (bs s), .bool false] 83)) [.int .i64 0, .int .i64 0, .string { data := #[] }, .string { data := #[] }, .string { data := #[] }, .string { data := #[] }, .string { data := #[] }] (some s) := by
    refine ⟨by rw [heap_alloc_get, if_neg (by simp), heap_alloc_get, if_pos rfl], ?_, by simp, ((Below.refl _ w).alloc (Nat.le_refl _) _).alloc (by simp) _⟩
    unfold RdAt
    rw [heap_alloc_get, if_pos (by simp)]
    rfl
  have hs0 : Short (some s) := fun t ht => by cases ht; exact hs
  have hs1 := hs0.rnum 16
  have hs2 := hs1.rnum 4
  go_wp2_with fail
  refine (Num_any _ _ 16 _ h0.rd hs0).mono ?_
  rintro e w1 ⟨rfl, hr1, hk1⟩
  have h1 := h0.read hr1 hk1
  clear hr1 hk1 h0
  go_wp2_with fail
  refine (Num_any _ _ 4 _ h1.rd hs1).mono ?_
  rintro e w2 ⟨rfl, hr2, hk2⟩
  have h2 := h1.read hr2 hk2
  clear hr2 hk2 h1
  go_wp2_with fail
  have hs3 := hs2.rtext 20
  have hs4 := hs3.rtext 64
  have h3 : Rst w (w2.alloc (.cells #[.int .i64 (wrap64 ((rnum (some s) 16).1 : Nat)), .int .i64 (wrap64 ((rnum (rnum (some s) 16).2 4).1 : Nat)), .string { data := #[] }, .string { data := #[] }, .string { data := #[] }, .string { data := #[] }, .string { data := #[] }] 25)) _ _ :=
    ⟨(heap_alloc_get _ _ _).trans ((if_neg (by have := h2.size; omega)).trans h2.row), (heap_alloc_get _ _ _).trans ((if_neg (by have := h2.size; omega)).trans h2.rd), by have := h2.size; simp; omega, h2.below.alloc (by have := h2.size; omega) _⟩
  have m3 : (w2.alloc (.cells #[.int .i64 (wrap64 ((rnum (some s) 16).1 : Nat)), .int .i64 (wrap64 ((rnum (rnum (some s) 16).2 4).1 : Nat)), .string { data := #[] }, .string { data := #[] }, .string { data := #[] }, .string { data := #[] }, .string { data := #[] }] 25)).heap[w2.heap.size]? = some (.cells #[.int .i64 (wrap64 ((rnum (some s) 16).1 : Nat)), .int .i64 (wrap64 ((rnum (rnum (some s) 16).2 4).1 : Nat)), .string { data := #[] }, .string { data := #[] }, .string { data := #[] }, .string { data := #[] }, .string { data := #[] }] 25 (0, 0)) := heap_alloc_new _ _
  refine (Text_any _ _ 20 (by decide) _ h3.rd hs2).mono ?_
  rintro e w3 ⟨rfl, hr3, hk3⟩
  have h4 := h3.read hr3 hk3
  have m4 := (hk3.block w2.heap.size (by simp) (by have := h2.size; simp; omega)).trans m3
  have s4 : w2.heap.size + 1 ≤ w3.heap.size := by have := hk3.size; simpa using this
  clear hr3 hk3 h3 m3
  go_wp2_with fail
  have hs5 := hs4.rtext 64
  refine (Text_any _ _ 64 (by decide) _ h4.rd hs3).mono ?_
  rintro e w4 ⟨rfl, hr4, hk4⟩
  have h5 := h4.read hr4 hk4
  have m5 := (hk4.block w2.heap.size (by omega) (by have := h2.size; simp; omega)).trans m4
  have s5 := Nat.le_trans s4 hk4.size
  clear hr4 hk4 h4 m4 s4
  go_wp2_with fail
  refine (Text_any _ _ 64 (by decide) _ h5.rd hs4).mono ?_
  rintro e w5 ⟨rfl, hr5, hk5⟩
  have h6 := h5.read hr5 hk5
  have m6 := (hk5.block w2.heap.size (by omega) (by have := h2.size; simp; omega)).trans m5
  have s6 := Nat.le_trans s5 hk5.size
  clear hr5 hk5 h5 m5 s5
  have d2 : w5.cell? ⟨w2.heap.size, 2, none⟩ = some (.string ⟨#[]⟩) := by unfold World.cell?; rw [m6]; rfl
  have f2 : w5.frozen? ⟨w2.heap.size, 2, none⟩ = false := by unfold World.frozen?; rw [m6]; rfl
  have d3 : w5.cell? ⟨w2.heap.size, 3, none⟩ = some (.string ⟨#[]⟩) := by unfold World.cell?; rw [m6]; rfl
  have f3 : w5.frozen? ⟨w2.heap.size, 3, none⟩ = false := by unfold World.frozen?; rw [m6]; rfl
  have d4 : w5.cell? ⟨w2.heap.size, 4, none⟩ = some (.string ⟨#[]⟩) := by unfold World.cell?; rw [m6]; rfl
  have f4 : w5.frozen? ⟨w2.heap.size, 4, none⟩ = false := by unfold World.frozen?; rw [m6]; rfl
  go_wp2_with fail
  have hs6 := hs5.rtext 64
  have hM : w.heap.size + 2 ≤ w2.heap.size := h2.size
  have h7 := ((h6.cell hM 2 (.string (bs (rtext (rnum (rnum (some s) 16).2 4).2 20).1))).cell hM 3 (.string (bs (rtext (rtext (rnum (rnum (some s) 16).2 4).2 20).2 64).1))).cell hM 4 (.string (bs (rtext (rtext (rtext (rnum (rnum (some s) 16).2 4).2 20).2 64).2 64).1))
  have m7 := set234 _ _ _ _ _ _ _ _ _ (.string (bs (rtext (rnum (rnum (some s) 16).2 4).2 20).1)) (.string (bs (rtext (rtext (rnum (rnum (some s) 16).2 4).2 20).2 64).1)) (.string (bs (rtext (rtext (rtext (rnum (rnum (some s) 16).2 4).2 20).2 64).2 64).1)) _ _ m6
  have s7 : w2.heap.size + 1 ≤ (((w5.setCell ⟨w2.heap.size, 2, none⟩ (.string (bs (rtext (rnum (rnum (some s) 16).2 4).2 20).1))).setCell ⟨w2.heap.size, 3, none⟩ (.string (bs (rtext (rtext (rnum (rnum (some s) 16).2 4).2 20).2 64).1))).setCell ⟨w2.heap.size, 4, none⟩ (.string (bs (rtext (rtext (rtext (rnum (rnum (some s) 16).2 4).2 20).2 64).2 64).1))).heap.size := by simpa [World.setCell] using s6
  clear d2 d3 d4 f2 f3 f4 m6 h6 s6
  refine (Text_any _ _ 64 (by decide) _ h7.rd hs5).mono ?_
  rintro e w6 ⟨rfl, hr6, hk6⟩
  have h8 := h7.read hr6 hk6
  have m8 := (hk6.block w2.heap.size (by omega) (by simp; omega)).trans m7
  have s8 := Nat.le_trans s7 hk6.size
  clear hr6 hk6 h7 m7 s7
  go_wp2_with fail
  refine (Text_any _ _ 64 (by decide) _ h8.rd hs6).mono ?_
  rintro e w7 ⟨rfl, hr7, hk7⟩
  have h9 := h8.read hr7 hk7
  have m9 := (hk7.block w2.heap.size (by omega) (by simp; omega)).trans m8
  have s9 := Nat.le_trans s8 hk7.size
  clear hr7 hk7 h8 m8 s8
  have d5 : w7.cell? ⟨w2.heap.size, 5, none⟩ = some (.string ⟨#[]⟩) := by unfold World.cell?; rw [m9]; rfl
  have f5 : w7.frozen? ⟨w2.heap.size, 5, none⟩ = false := by unfold World.frozen?; rw [m9]; rfl
  have d6 : w7.cell? ⟨w2.heap.size, 6, none⟩ = some (.string ⟨#[]⟩) := by unfold World.cell?; rw [m9]; rfl
  have f6 : w7.frozen? ⟨w2.heap.size, 6, none⟩ = false := by unfold World.frozen?; rw [m9]; rfl
  go_wp2_with fail
  have h10 := (h9.cell hM 5 (.string (bs (rtext (rtext (rtext (rtext (rnum (rnum (some s) 16).2 4).2 20).2 64).2 64).2 64).1))).cell hM 6 (.string (bs (rtext (rtext (rtext (rtext (rtext (rnum (rnum (some s) 16).2 4).2 20).2 64).2 64).2 64).2 64).1))
  have m10 := set56 _ _ _ _ _ _ _ _ _ (.string (bs (rtext (rtext (rtext (rtext (rnum (rnum (some s) 16).2 4).2 20).2 64).2 64).2 64).1)) (.string (bs (rtext (rtext (rtext (rtext (rtext (rnum (rnum (some s) 16).2 4).2 20).2 64).2 64).2 64).2 64).1)) _ _ m9
  clear d5 d6 f5 f6 h9 m9 s9
  generalize ((w7.setCell ⟨w2.heap.size, 5, none⟩ (.string (bs (rtext (rtext (rtext (rtext (rnum (rnum (some s) 16).2 4).2 20).2 64).2 64).2 64).1))).setCell ⟨w2.heap.size, 6, none⟩ (.string (bs (rtext (rtext (rtext (rtext (rtext (rnum (rnum (some s) 16).2 4).2 20).2 64).2 64).2 64).2 64).1))) = W8 at *
  refine (End_any _ _ _ h10.rd).mono ?_
  rintro e w8 ⟨rfl, hw8⟩
  subst hw8
  have c0 : w8.cell? ⟨w.heap.size, 0, none⟩ = some (.int .i64 0) := by unfold World.cell?; rw [h10.row]; rfl
  have g0 : w8.frozen? ⟨w.heap.size, 0, none⟩ = false := by unfold World.frozen?; rw [h10.row]; rfl
  have c1 : w8.cell? ⟨w.heap.size, 1, none⟩ = some (.int .i64 0) := by unfold World.cell?; rw [h10.row]; rfl
  have g1 : w8.frozen? ⟨w.heap.size, 1, none⟩ = false := by unfold World.frozen?; rw [h10.row]; rfl
  have c2 : w8.cell? ⟨w.heap.size, 2, none⟩ = some (.string ⟨#[]⟩) := by unfold World.cell?; rw [h10.row]; rfl
  have g2 : w8.frozen? ⟨w.heap.size, 2, none⟩ = false := by unfold World.frozen?; rw [h10.row]; rfl
  have c3 : w8.cell? ⟨w.heap.size, 3, none⟩ = some (.string ⟨#[]⟩) := by unfold World.cell?; rw [h10.row]; rfl
  have g3 : w8.frozen? ⟨w.heap.size, 3, none⟩ = false := by unfold World.frozen?; rw [h10.row]; rfl
  have c4 : w8.cell? ⟨w.heap.size, 4, none⟩ = some (.string ⟨#[]⟩) := by unfold World.cell?; rw [h10.row]; rfl
  have g4 : w8.frozen? ⟨w.heap.size, 4, none⟩ = false := by unfold World.frozen?; rw [h10.row]; rfl
  have c5 : w8.cell? ⟨w.heap.size, 5, none⟩ = some (.string ⟨#[]⟩) := by unfold World.cell?; rw [h10.row]; rfl
  have g5 : w8.frozen? ⟨w.heap.size, 5, none⟩ = false := by unfold World.frozen?; rw [h10.row]; rfl
  have c6 : w8.cell? ⟨w.heap.size, 6, none⟩ = some (.string ⟨#[]⟩) := by unfold World.cell?; rw [h10.row]; rfl
  have g6 : w8.frozen? ⟨w.heap.size, 6, none⟩ = false := by unfold World.frozen?; rw [h10.row]; rfl
  by_cases hE : (rtext (rtext (rtext (rtext (rtext (rnum (rnum (some s) 16).2 4).2 20).2 64).2 64).2 64).2 64).2 = some []
  · have hD : decide ((rtext (rtext (rtext (rtext (rtext (rnum (rnum (some s) 16).2 4).2 20).2 64).2 64).2 64).2 64).2 = some []) = true := decide_eq_true hE
    rw [hD]
    have d0 : w8.cell? ⟨w2.heap.size, 0, none⟩ = some (.int .i64 (wrap64 ((rnum (some s) 16).1 : Nat))) := by unfold World.cell?; rw [m10]; rfl
    have d1 : w8.cell? ⟨w2.heap.size, 1, none⟩ = some (.int .i64 (wrap64 ((rnum (rnum (some s) 16).2 4).1 : Nat))) := by unfold World.cell?; rw [m10]; rfl
    have d2 : w8.cell? ⟨w2.heap.size, 2, none⟩ = some (.string (bs (rtext (rnum (rnum (some s) 16).2 4).2 20).1)) := by unfold World.cell?; rw [m10]; rfl
    have d3 : w8.cell? ⟨w2.heap.size, 3, none⟩ = some (.string (bs (rtext (rtext (rnum (rnum (some s) 16).2 4).2 20).2 64).1)) := by unfold World.cell?; rw [m10]; rfl
    have d4 : w8.cell? ⟨w2.heap.size, 4, none⟩ = some (.string (bs (rtext (rtext (rtext (rnum (rnum (some s) 16).2 4).2 20).2 64).2 64).1)) := by unfold World.cell?; rw [m10]; rfl
    have d5 : w8.cell? ⟨w2.heap.size, 5, none⟩ = some (.string (bs (rtext (rtext (rtext (rtext (rnum (rnum (some s) 16).2 4).2 20).2 64).2 64).2 64).1)) := by unfold World.cell?; rw [m10]; rfl
    have d6 : w8.cell? ⟨w2.heap.size, 6, none⟩ = some (.string (bs (rtext (rtext (rtext (rtext (rtext (rnum (rnum (some s) 16).2 4).2 20).2 64).2 64).2 64).2 64).1)) := by unfold World.cell?; rw [m10]; rfl
    have u1 : wrap64 ((rnum (some s) 16).1 : Nat) = ((rnum (some s) 16).1 : Nat) := by
      have : (rnum (some s) 16).1 ≤ 16 := by unfold rnum; split <;> (try split) <;> simp_all <;> omega
      rw [wrap64]; omega
    have u2 : wrap64 ((rnum (rnum (some s) 16).2 4).1 : Nat) = ((rnum (rnum (some s) 16).2 4).1 : Nat) := by
      have : (rnum (rnum (some s) 16).2 4).1 ≤ 4 := by unfold rnum; split <;> (try split) <;> simp_all <;> omega
      rw [wrap64]; omega
    go_wp2_with fail
    refine (Check_any (takeR s).1 w8).mono ?_
    rintro e w9 ⟨rfl, hb9⟩
    rw [u1, u2] at m10
    have row9 := (hb9.5 w.heap.size (by have := h10.size; omega)).trans h10.row
    have m11 := (hb9.5 w2.heap.size (Array.getElem?_eq_some_iff.1 m10).1).trans m10
    have hB9 : Below w.heap.size w w9 := h10.below.trans (hb9.mono (by have := h10.size; omega))
    clear c0 g0 d0 c1 g1 d1 c2 g2 d2 c3 g3 d3 c4 g4 d4 c5 g5 d5 c6 g6 d6 hb9 h10 m10
    have c0 : w9.cell? ⟨w.heap.size, 0, none⟩ = some (.int .i64 0) := by unfold World.cell?; rw [row9]; rfl
    have g0 : w9.frozen? ⟨w.heap.size, 0, none⟩ = false := by unfold World.frozen?; rw [row9]; rfl
    have c1 : w9.cell? ⟨w.heap.size, 1, none⟩ = some (.int .i64 0) := by unfold World.cell?; rw [row9]; rfl
    have g1 : w9.frozen? ⟨w.heap.size, 1, none⟩ = false := by unfold World.frozen?; rw [row9]; rfl
    have c2 : w9.cell? ⟨w.heap.size, 2, none⟩ = some (.string ⟨#[]⟩) := by unfold World.cell?; rw [row9]; rfl
    have g2 : w9.frozen? ⟨w.heap.size, 2, none⟩ = false := by unfold World.frozen?; rw [row9]; rfl
    have c3 : w9.cell? ⟨w.heap.size, 3, none⟩ = some (.string ⟨#[]⟩) := by unfold World.cell?; rw [row9]; rfl
    have g3 : w9.frozen? ⟨w.heap.size, 3, none⟩ = false := by unfold World.frozen?; rw [row9]; rfl
    have c4 : w9.cell? ⟨w.heap.size, 4, none⟩ = some (.string ⟨#[]⟩) := by unfold World.cell?; rw [row9]; rfl
    have g4 : w9.frozen? ⟨w.heap.size, 4, none⟩ = false := by unfold World.frozen?; rw [row9]; rfl
    have c5 : w9.cell? ⟨w.heap.size, 5, none⟩ = some (.string ⟨#[]⟩) := by unfold World.cell?; rw [row9]; rfl
    have g5 : w9.frozen? ⟨w.heap.size, 5, none⟩ = false := by unfold World.frozen?; rw [row9]; rfl
    have c6 : w9.cell? ⟨w.heap.size, 6, none⟩ = some (.string ⟨#[]⟩) := by unfold World.cell?; rw [row9]; rfl
    have g6 : w9.frozen? ⟨w.heap.size, 6, none⟩ = false := by unfold World.frozen?; rw [row9]; rfl
    have d0 : w9.cell? ⟨w2.heap.size, 0, none⟩ = some (.int .i64 ((rnum (some s) 16).1 : Nat)) := by unfold World.cell?; rw [m11]; rfl
    have d1 : w9.cell? ⟨w2.heap.size, 1, none⟩ = some (.int .i64 ((rnum (rnum (some s) 16).2 4).1 : Nat)) := by unfold World.cell?; rw [m11]; rfl
    have d2 : w9.cell? ⟨w2.heap.size, 2, none⟩ = some (.string (bs (rtext (rnum (rnum (some s) 16).2 4).2 20).1)) := by unfold World.cell?; rw [m11]; rfl
    have d3 : w9.cell? ⟨w2.heap.size, 3, none⟩ = some (.string (bs (rtext (rtext (rnum (rnum (some s) 16).2 4).2 20).2 64).1)) := by unfold World.cell?; rw [m11]; rfl
    have d4 : w9.cell? ⟨w2.heap.size, 4, none⟩ = some (.string (bs (rtext (rtext (rtext (rnum (rnum (some s) 16).2 4).2 20).2 64).2 64).1)) := by unfold World.cell?; rw [m11]; rfl
    have d5 : w9.cell? ⟨w2.heap.size, 5, none⟩ = some (.string (bs (rtext (rtext (rtext (rtext (rnum (rnum (some s) 16).2 4).2 20).2 64).2 64).2 64).1)) := by unfold World.cell?; rw [m11]; rfl
    have d6 : w9.cell? ⟨w2.heap.size, 6, none⟩ = some (.string (bs (rtext (rtext (rtext (rtext (rtext (rnum (rnum (some s) 16).2 4).2 20).2 64).2 64).2 64).2 64).1)) := by unfold World.cell?; rw [m11]; rfl
    cases hK : checkR (takeR s).1 with
    | false =>
      have hq : readR s = none := by unfold readR; rw [if_neg (fun hh => by rw [hK] at hh; exact Bool.noConfusion hh.2)]
      go_wp2_with fail
      refine wireRead_end rfl rfl rfl (set7 _ _ _ _ _ _ _ _ _ _ _ _ _ _ _ _ _ _ row9) (by kernel_rfl) ⟨by unfold readV; rw [hq]; rfl, ((((((hB9.setCell (Nat.le_refl _) _).setCell (Nat.le_refl _) _).setCell (Nat.le_refl _) _).setCell (Nat.le_refl _) _).setCell (Nat.le_refl _) _).setCell (Nat.le_refl _) _).setCell (Nat.le_refl _) _⟩
    | true =>
      have hq : readR s = some (takeR s).1 := by unfold readR; rw [if_pos ⟨hE, hK⟩]
      go_wp2_with fail
      refine wireRead_end rfl rfl rfl (set7 _ _ _ _ _ _ _ _ _ _ _ _ _ _ _ _ _ _ row9) (by kernel_rfl) ⟨by unfold readV; rw [hq]; rfl, ((((((hB9.setCell (Nat.le_refl _) _).setCell (Nat.le_refl _) _).setCell (Nat.le_refl _) _).setCell (Nat.le_refl _) _).setCell (Nat.le_refl _) _).setCell (Nat.le_refl _) _).setCell (Nat.le_refl _) _⟩
  · have hD : decide ((rtext (rtext (rtext (rtext (rtext (rnum (rnum (some s) 16).2 4).2 20).2 64).2 64).2 64).2 64).2 = some []) = false := decide_eq_false hE
    rw [hD]
    go_wp2_with fail
    have hq : readR s = none := by unfold readR; rw [if_neg (fun hh => hE hh.1)]
    refine wireRead_end rfl rfl rfl (set7 _ _ _ _ _ _ _ _ _ _ _ _ _ _ _ _ _ _ h10.row) (by kernel_rfl) ⟨?_, ?_⟩
    · unfold readV
      rw [hq]
      rfl
    · exact ((((((h10.below.setCell (Nat.le_refl _) _).setCell (Nat.le_refl _) _).setCell (Nat.le_refl _) _).setCell (Nat.le_refl _) _).setCell (Nat.le_refl _) _).setCell (Nat.le_refl _) _).setCell (Nat.le_refl _) _
end Go.Proofs.YtjiaoppefinljaaGreatDoor.Pk
