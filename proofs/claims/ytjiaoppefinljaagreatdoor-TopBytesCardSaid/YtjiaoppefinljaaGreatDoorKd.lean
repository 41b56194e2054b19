/- Operations that read, and operations that make a block, do what the model's do. -/
import Derived.Test.YtjiaoppefinljaaGreatDoorKc
import Derived.Deep.AppendSrc
set_option linter.unusedVariables false
set_option linter.unusedSimpArgs false
set_option linter.unusedSectionVars false
namespace Go.Proofs.YtjiaoppefinljaaGreatDoor.Ab
open Go
variable {P : Program} {gl : Nat → Option AV} {F : Nat → Prop} {w0 : World} {ρ : Rho} {σ : St} {w : World} {n : Nat} {ts : Tr AV} {r : Operand → Value}

/-- what package-level variables hold -/
def GlOk (F : Nat → Prop) (w0 : World) (gl : Nat → Option AV) : Prop := ∀ g v, gl g = some v → F g ∧ ∃ u T fr, w0.heap[g]? = some (.cells #[u] T fr) ∧ VR (fun _ => none) v u

/-- a block's cells -/
structure Cells (ρ : Rho) (w : World) (L : Loc) (T : TypeId) (l : List AV) (cl sg : Bool) (fz : Nat) (pre vs post : List Value) (fr : Nat × Nat) : Prop where
  at_ : w.heap[L.b]? = some (.cells (pre ++ (vs ++ post)).toArray T fr)
  base : pre.length = L.base
  size : (pre ++ (vs ++ post)).length = L.size
  rel : VRs ρ l vs
  one : allOne l = true
  cl_ : cl = true → pre = [] ∧ post = []
  fr_ : FrOk L sg fz fr
theorem HR.cells (h : HR P gl F w0 ρ σ w) {id : Nat} {L : Loc} {T : TypeId} {l : List AV} {cl sg : Bool} {fz : Nat} (hi : ρ id = some L) (hg : σ.get id = some (.cells T l cl sg fz)) :
    ∃ pre vs post fr, Cells ρ w L T l cl sg fz pre vs post fr := by
  obtain ⟨o, ho, pre, vs, post, fr, rfl, h1, h2, h3, h4, h5, h6⟩ := h.blk id L _ hi hg
  exact ⟨pre, vs, post, fr, ho, h1, h2, h3, h4, h5, h6⟩
section
variable {L : Loc} {T : TypeId} {l : List AV} {cl sg : Bool} {fz : Nat} {pre vs post : List Value} {fr : Nat × Nat}
theorem Cells.cell (c : Cells ρ w L T l cl sg fz pre vs post fr) {i : Nat} {v : Value} (h : vs[i]? = some v) : w.cell? ⟨L.b, L.base + i, none⟩ = some v := by
  obtain ⟨hi, hv⟩ := List.getElem?_eq_some_iff.1 h
  have : (pre ++ (vs ++ post))[L.base + i]? = some v := by
    rw [List.getElem?_append_right (by have := c.base; omega), List.getElem?_append_left (by have := c.base; omega), show L.base + i - pre.length = i by have := c.base; omega]
    exact h
  simp only [World.cell?, c.at_, Option.isSome_none, Bool.false_eq_true, if_false, List.getElem?_toArray, this]
theorem Cells.some (c : Cells ρ w L T l cl sg fz pre vs post fr) {o : Nat} (h : o < L.size) : ∃ v, w.cell? ⟨L.b, o, none⟩ = some v := by
  have h2 : o < (pre ++ (vs ++ post)).length := by rw [c.size]; exact h
  exact ⟨(pre ++ (vs ++ post))[o], by simp only [World.cell?, c.at_, Option.isSome_none, Bool.false_eq_true, if_false, List.getElem?_toArray, List.getElem?_eq_getElem h2]⟩
theorem Cells.free (c : Cells ρ w L T l cl sg fz pre vs post fr) {o : Nat} (h1 : L.base + fz ≤ o) (h2 : o < L.size) : w.frozen? ⟨L.b, o, none⟩ = false := by
  obtain ⟨lo, hi⟩ := fr
  have := c.fr_
  unfold FrOk at this
  simp only [World.frozen?, c.at_, Bool.and_eq_false_iff, decide_eq_false_iff_not]
  split at this
  · have := this o h2
    simp only at this
    omega
  · simp only at this
    omega
theorem Cells.len (c : Cells ρ w L T l cl sg fz pre vs post fr) : L.base + l.length ≤ L.size := by
  have h1 := c.base
  have h2 := c.size
  have h3 := c.rel.len
  simp only [List.length_append] at h2
  omega
/-- so many cells from one on -/
theorem Cells.load (c : Cells ρ w L T l cl sg fz pre vs post fr) {q : List AV} {off m : Nat} (h : sub l off m = Option.some q) :
    (loadCells ⟨L.b, L.base + off, none⟩ m).run P w = .ok ((vs.drop off).take m).toArray w ∧ VRs ρ q ((vs.drop off).take m) ∧ ((vs.drop off).take m).length = m := by
  have h1 := sub_spec h
  have h2 := c.rel.len
  have hl : ((vs.drop off).take m).length = m := by simp; omega
  refine ⟨?_, c.rel.sub h, hl⟩
  have := run_loadCells_list (P := P) w ⟨L.b, L.base + off, none⟩ ((vs.drop off).take m) (fun j v hj => by
    rw [addr_add, Nat.add_assoc]
    refine c.cell ?_
    rw [List.getElem?_take] at hj
    split at hj
    · rw [List.getElem?_drop] at hj; exact hj
    · cases hj)
  rw [hl] at this
  exact this
theorem Cells.shape (c : Cells ρ w L T l cl sg fz pre vs post fr) : w.shape? L.b = Option.some (T, L.size) := by
  simp only [World.shape?, c.at_, List.size_toArray, c.size]
/-- cells written over -/
theorem setCells_at (b : Nat) (T : TypeId) (fr : Nat × Nat) : ∀ (us : List Value) (pre mid post : List Value) (w : World), w.heap[b]? = Option.some (.cells (pre ++ (mid ++ post)).toArray T fr) → mid.length = us.length →
    w.setCells b pre.length us = w.setRow b (pre ++ (us ++ post)).toArray
  | [], pre, mid, post, w, h, hl => by
    have : mid = [] := by simpa using hl
    subst this
    simp only [World.setCells]
    exact (setRow_self w b _ T fr h).symm
  | u :: us, pre, mid, post, w, h, hl => by
    cases mid with
    | nil => simp at hl
    | cons m mid =>
      simp only [World.setCells]
      have hs : w.setCell ⟨b, pre.length, none⟩ u = w.setRow b (pre ++ (u :: mid ++ post)).toArray := by
        rw [setCell_eq_setRow w b pre.length _ T fr u h]
        congr 1
        simp
      rw [hs]
      have h2 : (w.setRow b (pre ++ (u :: mid ++ post)).toArray).heap[b]? = Option.some (.cells ((pre ++ [u]) ++ (mid ++ post)).toArray T fr) := by
        rw [setRow_heap w b _ _ T fr h]; simp
      have ih := setCells_at b T fr us (pre ++ [u]) mid post _ h2 (by simpa using hl)
      rw [List.length_append] at ih
      simp only [List.length_cons, List.length_nil, Nat.zero_add] at ih
      rw [ih, setRow_setRow]
      simp
end
theorem run_shape (b : Nat) (w : World) : (Go.shape b).run P w = .ok (w.shape? b) w := rfl
theorem run_viewAt {b : Nat} {s : TypeId × Nat} (h : w.shape? b = some s) : (viewAt b).run P w = .ok none w := by
  simp [viewAt, run_shape, h]

/-! ### Reading -/
theorem textOf_sound : ∀ {l : List AV} {s : List Nat} {vs : List Value}, textOf l = some s → VRs ρ l vs → (∀ x ∈ s, x < 256) ∧
    ∃ ns : List Int, vs = ns.map (Value.int .u8) ∧ ∀ q : List Nat, ns.foldl (fun b n => b.push (UInt8.ofNat n.toNat)) (bsN q) = bsN (q ++ s)
  | [], s, vs, ht, hv => by cases ht; cases hv; exact ⟨(fun x hx => (by cases hx)), [], rfl, fun q => (by simp)⟩
  | a :: l, s, vs, ht, hv => by
    unfold textOf at ht
    split at ht
    · rename_i m
      split at ht
      · rename_i s' hs'
        cases ht
        cases hv with
        | cons _ _ _ vs' hv1 hv2 =>
          cases hv1
          obtain ⟨h1, ns, rfl, h2⟩ := textOf_sound hs' hv2
          refine ⟨fun x hx => ?_, (m : Int) :: ns, rfl, fun q => ?_⟩
          · rcases List.mem_cons.1 hx with rfl | hx
            · exact Nat.mod_lt _ (by omega)
            · exact h1 x hx
          · simp only [List.foldl_cons]
            have : (bsN q).push (UInt8.ofNat (Int.toNat (m : Int))) = bsN (q ++ [m % 256]) := by
              apply ByteArray.ext
              apply Array.toList_inj.1
              simp only [bsN, ByteArray.data_push, Array.toList_push, List.map_append, List.map_cons, List.map_nil, Int.toNat_natCast, List.append_cancel_left_eq, List.cons.injEq, and_true]
              apply UInt8.toNat_inj.1
              simp
            rw [this, h2]
            simp
            rfl
      · cases ht
    · cases ht
section
variable (hr : OR ρ n ts r) (h : HR P gl F w0 ρ σ w)
include hr h
theorem ldA_sound {t : TypeId} {m : Option Nat} {a v : AV} {u : Value} (ha : VR ρ a u) (hm : ldN P t = some m) (hl : ldA m σ a = some v) :
    ∃ b, u = .pointer (some b) ∧ ∃ x, VR ρ v x ∧ (loadVar t b).run P w = .ok x w := by
  unfold ldA at hl
  split at hl
  · rename_i id off
    split at hl
    · rename_i T l cl sg fz hg
      cases ha with
      | ptr _ _ L hL =>
        obtain ⟨pre, vs, post, fr, c⟩ := h.cells hL hg
        refine ⟨_, rfl, ?_⟩
        unfold ldN at hm
        split at hl
        · rename_i k
          split at hl
          · rename_i q hq
            cases hl
            split at hm
            · rename_i hag
              split at hm
              · rename_i k' hk; cases hm
                obtain ⟨h1, h2, _⟩ := c.load (P := P) hq
                exact ⟨_, .agg _ _ h2, by simp only [loadVar, Sem.run_bind, aggOf_run hag, Result.andThen, if_true, szOf_run hk, h1, Sem.run_pure]⟩
              · cases hm
            · cases hm
            · cases hm
          · cases hl
        · split at hm
          · split at hm <;> cases hm
          · rename_i hag
            obtain ⟨x, hx, hvx⟩ := c.rel.nth hl
            refine ⟨x, hvx, ?_⟩
            simp only [loadVar, Sem.run_bind, aggOf_run hag, Result.andThen, Bool.false_eq_true, if_false, run_load, c.cell hx]
          · cases hm
    · cases hl
  · cases hl
theorem load_sound {t : TypeId} {x : Operand} {x' : X} {m : Option Nat} {v : AV} {o : Oper} (ho : o.op = .load t x) (hx : cX n x = some x') (hm : ldN P t = some m) (hl : ldA m σ (x'.ev ts) = some v) :
    ∃ u, VR ρ v u ∧ (execOp r o).run P w = .ok (.value u) w := by
  obtain ⟨b, hb, u, hu, hru⟩ := ldA_sound hr h (hr _ _ hx) hm hl
  refine ⟨u, hu, ?_⟩
  simp only [execOp, ho, hb]
  refine lift ?_
  simp only [Instr.loadAt, Instr.sureAddr, Sem.run_bind, Sem.run_pure, Result.andThen, hru]
omit hr in
theorem ldg_sound (hgl : GlOk F w0 gl) {t : TypeId} {g : Nat} {v : AV} {o : Oper} (ho : o.op = .load t (.global g)) (hg : gl g = some v) (hm : ldN P t = some none) (hrg : r (.global g) = .pointer (some ⟨g, 0, none⟩)) :
    ∃ u, VR ρ v u ∧ (execOp r o).run P w = .ok (.value u) w := by
  obtain ⟨hF, u, T, fr, hu, hv⟩ := hgl g v hg
  have hw : w.heap[g]? = some (.cells #[u] T fr) := by rw [(h.frame g hF).2]; exact hu
  refine ⟨u, hv.mono (fun _ _ e => by cases e), ?_⟩
  simp only [execOp, ho, hrg]
  refine lift ?_
  have hag : aggOf P t = some false := by
    unfold ldN at hm
    split at hm
    · split at hm <;> cases hm
    · assumption
    · cases hm
  have hc : w.cell? ⟨g, 0, none⟩ = some u := by simp [World.cell?, hw]
  simp only [Instr.loadAt, Instr.sureAddr, Sem.run_bind, Sem.run_pure, Result.andThen, loadVar, aggOf_run hag, Bool.false_eq_true, if_false, run_load, hc]
theorem b2s_sound {s d e : TypeId} {x : Operand} {x' : X} {v : AV} {o : Oper} (ho : o.op = .convert s d x) (hx : cX n x = some x') (h1 : P.underlying s = some (.slice e)) (h2 : P.underlying d = some .string) (h3 : isByte P e = true)
    (hl : b2sA σ (x'.ev ts) = some v) : ∃ u, VR ρ v u ∧ (execOp r o).run P w = .ok (.value u) w := by
  have hv := hr _ _ hx
  have he : P.underlying e = some (.int .u8) := by
    unfold isByte at h3
    split at h3
    · assumption
    · cases h3
  have key : ∃ u, VR ρ v u ∧ (convert s d (r x)).run P w = .ok u w := by
    unfold b2sA at hl
    split at hl
    · rename_i ex
      rw [ex] at hv
      cases hl
      generalize r x = rx at hv ⊢
      cases hv
      refine ⟨_, .str [] (fun y hy => (by cases hy)), ?_⟩
      rw [run_convert_bytes_string w s d e none 0 0 h1 he h2]
      rfl
    · rename_i id off len cap exx esz ex
      rw [ex] at hv
      split at hl
      · split at hl
        · rename_i T l cl sg fz hg
          split at hl
          · rename_i q hq
            split at hl
            · rename_i t ht
              cases hl
              generalize r x = rx at hv ⊢
              cases hv with
              | sl _ _ _ _ _ _ L a c hL p1 p2 p3 p4 p5 =>
                rw [run_convert_bytes_string w s d e (some a) len c h1 he h2]
                obtain ⟨pre, vs, post, fr, cc⟩ := h.cells hL hg
                obtain ⟨g1, g2, g3⟩ := cc.load (P := P) hq
                obtain ⟨k1, ns, k2, k3⟩ := textOf_sound ht g2
                refine ⟨_, .str _ k1, ?_⟩
                by_cases hc : c = 0
                · have hlen : len = 0 := by omega
                  subst hlen
                  have hns : ns = [] := by
                    have := congrArg List.length k2
                    simp at this
                    exact List.eq_nil_of_length_eq_zero this.symm
                  subst hns
                  have k4 := k3 []
                  simp at k4
                  have : (loadCells a 0).run P w = .ok (([] : List Int).map (Value.int .u8)).toArray w := rfl
                  rw [run_bytesToString w a 0 c [] this]
                  simp only [List.foldl_nil]
                  rw [← k4]; rfl
                · rw [p5 hc]
                  rw [k2] at g1
                  rw [run_bytesToString w _ len c ns g1]
                  have := k3 []
                  rw [List.nil_append] at this
                  rw [← this]; rfl
            · cases hl
          · cases hl
        · cases hl
      · cases hl
    · cases hl
  obtain ⟨u, hu, hru⟩ := key
  refine ⟨u, hu, ?_⟩
  simp only [execOp, ho]
  exact lift hru
theorem ptu_sound {s d e : TypeId} {m : Nat} {x : Operand} {x' : X} {v : AV} {o : Oper} (ho : o.op = .convert s d x) (hx : cX n x = some x') (h1 : P.underlying s = some (.pointer e)) (h2 : P.underlying d = some .unsafePointer) (h3 : szOf P e = some (m + 1))
    (hl : ptuA σ (x'.ev ts) = some v) : ∃ u, VR ρ v u ∧ (execOp r o).run P w = .ok (.value u) w := by
  have hv := hr _ _ hx
  unfold ptuA at hl
  split at hl
  · rename_i ex
    rw [ex] at hv
    cases hl
    generalize he : r x = rx at hv
    cases hv
    refine ⟨_, .nilp, ?_⟩
    simp only [execOp, ho, he]
    refine lift ?_
    simp only [convert, Sem.run_bind, und_of h1, und_of h2, Result.andThen, Conv.unsafePointer, Sem.run_pure]
  · rename_i id off ex
    rw [ex] at hv
    split at hl
    · rename_i T l cl sg fz hg
      rw [nblt] at hl
      by_cases hlt : off < l.length
      · rw [decide_eq_true hlt] at hl
        cases hl
        generalize he : r x = rx at hv
        cases hv with
        | ptr _ _ L hL =>
          obtain ⟨pre, vs, post, fr, c⟩ := h.cells hL hg
          refine ⟨_, .ptr _ _ L hL, ?_⟩
          simp only [execOp, ho, he]
          refine lift ?_
          have hva := run_viewAt (P := P) c.shape
          have hci : (cellsIn L.b).run P w = .ok (some L.size) w := by simp [cellsIn, run_shape, c.shape]
          have := c.len
          simp only [convert, Sem.run_bind, und_of h1, und_of h2, Result.andThen, Conv.unsafePointer, Conv.seenAt, hva, Sem.run_pure, hci, szOf_run h3]
          have hd : ¬ (L.size ≤ L.base + off) := by omega
          simp [hd]
      · rw [decide_eq_false hlt] at hl; cases hl
    · cases hl
  · cases hl
theorem utp_sound {s d e : TypeId} {m : Nat} {x : Operand} {x' : X} {v : AV} {o : Oper} (ho : o.op = .convert s d x) (hx : cX n x = some x') (h1 : P.underlying s = some .unsafePointer) (h2 : P.underlying d = some (.pointer e)) (h3 : szOf P e = some (m + 1))
    (hl : utpA P e σ (x'.ev ts) = some v) : ∃ u, VR ρ v u ∧ (execOp r o).run P w = .ok (.value u) w := by
  have hv := hr _ _ hx
  unfold utpA at hl
  split at hl
  · rename_i ex
    rw [ex] at hv
    cases hl
    generalize he : r x = rx at hv
    cases hv
    refine ⟨_, .nilp, ?_⟩
    simp only [execOp, ho, he]
    refine lift ?_
    simp only [convert, Sem.run_bind, und_of h1, und_of h2, Result.andThen, Conv.unsafePointer, Sem.run_pure]
  · rename_i id off ex
    rw [ex] at hv
    split at hl
    · rename_i T l sg fz hg
      split at hl
      · rename_i hlie
        cases hl
        generalize he : r x = rx at hv
        cases hv with
        | ptr _ _ L hL =>
          obtain ⟨pre, vs, post, fr, c⟩ := h.cells hL hg
          refine ⟨_, .ptr _ _ L hL, ?_⟩
          simp only [execOp, ho, he]
          refine lift ?_
          have hva := run_viewAt (P := P) c.shape
          obtain ⟨e1, e2⟩ := c.cl_ rfl
          have hb0 : L.base = 0 := by rw [← c.base, e1]; rfl
          have hsz : L.size = l.length := by
            have g1 := c.size
            have g2 := c.rel.len
            rw [e1, e2] at g1
            simp at g1
            omega
          have hvar : (variablesAt ⟨L.b, L.base + off, none⟩ e 1).run P w = .ok true w := by
            have hpr : ∀ w, (program).run P w = .ok P w := fun _ => rfl
            simp only [variablesAt, Sem.run_bind, hpr, Result.andThen, run_shape, c.shape, Sem.run_pure, hsz, hb0, Nat.zero_add]
            congr 1
          simp only [convert, Sem.run_bind, und_of h1, und_of h2, Result.andThen, Conv.unsafePointer, Conv.seenAt, hva, Sem.run_pure, szOf_run h3, hvar]
          simp
      · cases hl
    · cases hl
  · cases hl
theorem slA_sound {t e : TypeId} {m s : Nat} {x : Operand} {lo hi mx : Option Operand} {x' : X} {lo' hi' mx' : Option X} {v : AV} {o : Oper} (ho : o.op = .slice t x lo hi mx) (hx : cX n x = some x') (hlo : cXo n lo = some lo') (hhi : cXo n hi = some hi') (hmx : cXo n mx = some mx')
    (hu : P.underlying t = some (.array m e)) (hs : szOf P e = some s) (hmh : mx'.isSome = true → hi'.isSome = true) (hl : slAA m s σ (x'.ev ts) (evo ts lo') (evo ts hi') (evo ts mx') = some v) :
    ∃ u, VR ρ v u ∧ (execOp r o).run P w = .ok (.value u) w := by
  have hv := hr _ _ hx
  have h1 := cXo_sound hr hlo
  have h2 := cXo_sound hr hhi
  have h3 := cXo_sound hr hmx
  have hsome : (evo ts mx').isSome = true → (evo ts hi').isSome = true := by
    cases mx' <;> cases hi' <;> simp_all [evo]
  unfold slAA at hl
  split at hl
  · rename_i id off ex
    rw [ex] at hv
    split at hl
    · rename_i T l cl sg fz hg
      rw [nble] at hl
      by_cases hle : Nat.add off (Nat.mul m s) ≤ l.length
      · rw [decide_eq_true hle] at hl
        simp only [] at hl
        split at hl
        · rename_i mm e1
          split at hl
          · rename_i hh e2
            split at hl
            · rename_i ll e3
              cases hl
              generalize he : r x = rx at hv
              cases hv with
              | ptr _ _ L hL =>
                obtain ⟨pre, vs, post, fr, c⟩ := h.cells hL hg
                have hlen := c.len
                have hle' : off + m * s ≤ l.length := hle
                obtain ⟨g1, g2, g3, m', g4, g5, g6, g7, g8⟩ := bounds_sound (P := P) (isSlice := false) (len := m) (cap := m) h1 h2 h3 hsome e1 e2 e3 (Nat.le_refl _) (Nat.le_refl _)
                have hmm : m' = mm := by
                  cases hmv : evo ts mx' with
                  | none => have := g7 hmv; omega
                  | some b => exact g6 (by rw [hmv]; rfl)
                subst hmm
                have q1 : ll * s + (m' - ll) * s ≤ m * s := by
                  rw [← Nat.add_mul]; exact Nat.mul_le_mul_right _ (by omega)
                refine ⟨.slice (some (if m' = ll then ⟨L.b, L.base + off, none⟩ else (⟨L.b, L.base + off, none⟩ : Addr).add (ll * s))) (hh - ll) (m' - ll), ?_, ?_⟩
                · refine .sl _ _ _ _ _ _ L _ _ hL (by show hh - ll ≤ m' - ll; omega) (Nat.le_refl _) (fun _ => rfl) (by show L.base + (off + ll * s) + (m' - ll) * s ≤ L.size; omega) (fun hne => ?_)
                  rw [if_neg (by omega), addr_add, Nat.add_assoc]; rfl
                · simp only [execOp, ho, he]
                  refine lift ?_
                  simp only [Instr.sliceAt, Instr.sureAddr, Sem.run_bind, Result.andThen, und_of hu, g8, szOf_run hs, Sem.run_pure]
            · cases hl
          · cases hl
        · cases hl
      · rw [decide_eq_false hle] at hl; cases hl
    · cases hl
  · cases hl
end

/-! ### Maps -/
theorem sameNow_sound {a b : AV} {ua ub : Value} {q : Bool} (h : cellEq a b = some q) (ha : VR ρ a ua) (hb : VR ρ b ub) {t : TypeId} {td : TypeDesc} (hu : P.underlying t = some td) (ht : kOf P t = some (kindA a)) : Instr.sameNow td ua ub = some q := by
  unfold kOf at ht
  rw [hu] at ht
  cases ha with
  | int k x =>
    cases hb with
    | int k' y =>
      unfold cellEq at h
      simp only [keq_spec] at h
      by_cases e : k = k'
      · subst e
        simp only [decide_true, ieq_spec, Option.some.injEq] at h
        subst h
        cases td <;> first | (cases ht; done) | (simp [Instr.sameNow]; rfl)
      · simp [e] at h
    | _ => cases h
  | bool x =>
    cases hb with
    | bool y => cases h; cases td <;> first | (cases ht; done) | rfl
    | _ => cases h
  | str x hx =>
    cases hb with
    | str y hy =>
      cases h
      cases td <;> first | (cases ht; done) | (simp [Instr.sameNow, bsN_eq hx hy])
    | _ => cases h
  | _ => cases h
theorem findE_sound {k : AV} {uk : Value} (hk : VR ρ k uk) {t : TypeId} {td : TypeDesc} (hu : P.underlying t = some td) (ht : kOf P t = some (kindA k)) : ∀ {es : List (AV × AV × Nat)} {ents : List MapEntry} {q : Option AV}, findE k es = some q → ER ρ es ents → ∀ i,
    match q with | none => Instr.findNow td uk ents i = some none | some v => ∃ j u, Instr.findNow td uk ents i = some (some (j, u)) ∧ VR ρ v u
  | [], [], q, h, _, i => by cases h; rfl
  | (a, v, b) :: es, e :: ents, q, h, hr, i => by
    unfold findE at h
    obtain ⟨h1, h2, _, h4⟩ := hr
    split at h
    · rename_i hc
      cases h
      have := sameNow_sound hc hk h1 hu ht
      exact ⟨i, e.val, by simp only [Instr.findNow, this], h2⟩
    · rename_i hc
      have := sameNow_sound hc hk h1 hu ht
      have ih := findE_sound hk hu ht h h4 (i + 1)
      cases q with
      | none => simp only [Instr.findNow, this]; exact ih
      | some v => simp only [Instr.findNow, this]; exact ih
    · cases h
  | [], _ :: _, _, _, hr, _ => hr.elim
  | (_, _, _) :: _, [], _, _, hr, _ => hr.elim
theorem run_checkKey {t : TypeId} {k : Nat} (ht : kOf P t = some k) (em : Bool) (d : Nat) (v : Value) (w : World) : (Instr.checkKey em (d + 1) t v).run P w = .ok () w := by
  unfold kOf at ht
  cases hu : P.underlying t with
  | none => rw [hu] at ht; cases ht
  | some td =>
    rw [hu] at ht
    cases td <;> first | (cases ht; done) | (simp only [Instr.checkKey, Sem.run_bind, und_of hu, Result.andThen]; rfl)
theorem run_getObj {b : Nat} {o : Obj} (h : w.heap[b]? = some o) (hn : ∀ c e f, o ≠ .cells c e f) : (getObj b).run P w = .ok o w := by
  cases o with
  | cells c e f => exact absurd rfl (hn c e f)
  | _ => simp [getObj, Sem.run, h]
theorem zeroV_run {t : TypeId} {z : AV} (h : zeroV P t = some z) : ∃ u, VR ρ z u ∧ ∀ w, (zeroValue t).run P w = .ok u w := by
  unfold zeroV at h
  split at h
  · rename_i i hi
    split at h
    · rename_i v hv
      exact ⟨v, cv_sound h, fun w => by simp [zeroValue, typeInfo, hi, hv]⟩
    · cases h
  · cases h
section
variable (hr : OR ρ n ts r) (h : HR P gl F w0 ρ σ w)
include hr h
theorem lkp_sound {t kt e : TypeId} {m k : Operand} {m' k' : X} {kk : Nat} {z v : AV} {ok : Bool} {o : Oper} (ho : o.op = .lookup t m k ok) (hm : cX n m = some m') (hk : cX n k = some k') (hu : P.underlying t = some (.map kt e)) (hkk : kOf P kt = some kk) (hz : zeroV P e = some z)
    (hl : lkpA kk z ok σ (m'.ev ts) (k'.ev ts) = some v) : ∃ u, VR ρ v u ∧ (execOp r o).run P w = .ok (.value u) w := by
  have hvm := hr _ _ hm
  have hvk := hr _ _ hk
  obtain ⟨zu, hzu, hzr⟩ := zeroV_run (P := P) (ρ := ρ) hz
  unfold lkpA at hl
  split at hl
  · rename_i id ex
    rw [ex] at hvm
    split at hl
    · rename_i es clk hg
      generalize he : r m = rm at hvm
      cases hvm with
      | map _ L hL =>
        obtain ⟨ob, hob, ents, rfl, her⟩ := h.blk id L _ hL hg
        have hgo := run_getObj (P := P) hob (fun c e f => (by simp))
        obtain ⟨td, hkt⟩ : ∃ td, P.underlying kt = some td := by
          unfold kOf at hkk
          cases hx : P.underlying kt with
          | none => rw [hx] at hkk; cases hkk
          | some td => exact ⟨td, rfl⟩
        rw [nbeq] at hl
        by_cases hkd : kindA (k'.ev ts) = kk
        · rw [decide_eq_true hkd] at hl
          simp only [] at hl
          have hck := fun em => run_checkKey (P := P) hkk em 9999 (r k) w
          have hnine : (10000 : Nat) = 9999 + 1 := rfl
          have hres : ∃ (v0 : Value) (ok0 : Bool), VR ρ v (if ok = true then .tuple #[v0, .bool ok0] else v0) ∧ (execOp r o).run P w = .ok (.value (if ok = true then .tuple #[v0, .bool ok0] else v0)) w := by
            split at hl
            · rename_i v1 hf
              obtain ⟨j, u, hj, huv⟩ := findE_sound (P := P) hvk hkt (by rw [hkk, hkd]) hf her 0
              refine ⟨u, true, ?_, ?_⟩
              · cases ok <;> cases hl
                · exact huv
                · exact .tup _ _ (.cons _ _ _ _ huv (.cons _ _ _ _ (.bool true) .nil))
              · simp only [execOp, ho, he]
                refine lift ?_
                simp only [Instr.lookup, Sem.run_bind, und_of hu, Result.andThen, hgo, Sem.run_pure, hnine, hck, Instr.findKey, und_of hkt, hj]
            · rename_i hf
              have hj := findE_sound (P := P) hvk hkt (by rw [hkk, hkd]) hf her 0
              refine ⟨zu, false, ?_, ?_⟩
              · cases ok <;> cases hl
                · exact hzu
                · exact .tup _ _ (.cons _ _ _ _ hzu (.cons _ _ _ _ (.bool false) .nil))
              · simp only [execOp, ho, he]
                refine lift ?_
                simp only [] at hj
                simp only [Instr.lookup, Sem.run_bind, und_of hu, Result.andThen, hgo, Sem.run_pure, hnine, hck, Instr.findKey, und_of hkt, hj, hzr]
            · cases hl
          obtain ⟨v0, ok0, hv0, hrun⟩ := hres
          exact ⟨_, hv0, hrun⟩
        · rw [decide_eq_false hkd] at hl; cases hl
    · cases hl
  · cases hl
end
end Go.Proofs.YtjiaoppefinljaaGreatDoor.Ab

/- Operations that read: all of them. Operations that make a block. -/
namespace Go.Proofs.YtjiaoppefinljaaGreatDoor.Ab
open Go
variable {P : Program} {gl : Nat → Option AV} {F : Nat → Prop} {w0 : World} {ρ : Rho} {σ : St} {w : World} {n : Nat} {ts : Tr AV} {r : Operand → Value}

theorem evL_sound (hgl : GlOk F w0 gl) (hrg : ∀ g, r (.global g) = .pointer (some ⟨g, 0, none⟩)) (hr : OR ρ n ts r) (h : HR P gl F w0 ρ σ w) {o : Oper} {i : LI} {v : AV} (hc : cOp P gl n o = some (.l i)) (hv : evL P i ts σ = some v) :
    ∃ u, VR ρ v u ∧ (execOp r o).run P w = .ok (.value u) w := by
  unfold cOp at hc
  split at hc
  · repeat' (split at hc)
    all_goals cases hc
  · repeat' (split at hc)
    all_goals cases hc
  · repeat' (split at hc)
    all_goals cases hc
  · repeat' (split at hc)
    all_goals cases hc
  · repeat' (split at hc)
    all_goals cases hc
  · unfold cBuild at hc
    repeat' (split at hc)
    all_goals cases hc
  · repeat' (split at hc)
    all_goals cases hc
  · rename_i t x ho
    split at hc
    · rename_i g
      split at hc
      · rename_i v' hg hm
        cases hc; cases hv
        exact ldg_sound h hgl ho hg hm (hrg g)
      · cases hc
    · split at hc
      · rename_i x' m hx hm
        cases hc
        exact load_sound hr h ho hx hm hv
      · cases hc
  · repeat' (split at hc)
    all_goals cases hc
  · repeat' (split at hc)
    all_goals cases hc
  · repeat' (split at hc)
    all_goals cases hc
  · repeat' (split at hc)
    all_goals cases hc
  · rename_i s d x ho
    split at hc
    · rename_i x' hx
      unfold cConv at hc
      split at hc
      · cases hc
      · cases hc
      · rename_i e h1 h2
        split at hc
        · rename_i h3; cases hc; exact b2s_sound hr h ho hx h1 h2 h3 hv
        · cases hc
      · split at hc <;> cases hc
      · rename_i t h1 h2
        split at hc
        · rename_i m h3; cases hc; exact ptu_sound hr h ho hx h1 h2 h3 hv
        · cases hc
      · rename_i t h1 h2
        split at hc
        · rename_i m h3; cases hc; exact utp_sound hr h ho hx h1 h2 h3 hv
        · cases hc
      · cases hc
    · cases hc
  · repeat' (split at hc)
    all_goals cases hc
  · repeat' (split at hc)
    all_goals cases hc
  · repeat' (split at hc)
    all_goals cases hc
  · repeat' (split at hc)
    all_goals cases hc
  · rename_i t x lo hi mx ho
    split at hc
    · rename_i x' lo' hi' mx' hx hlo hhi hmx
      split at hc
      · split at hc <;> cases hc
      · split at hc
        · split at hc <;> cases hc
        · cases hc
      · rename_i m e hu
        split at hc
        · rename_i esz hs
          split at hc
          · cases hc
          · rename_i hne
            cases hc
            refine slA_sound hr h ho hx hlo hhi hmx hu hs (fun hm => ?_) hv
            cases mx' with
            | none => cases hm
            | some q => cases hi' with
              | none => exact absurd rfl (hne q rfl)
              | some _ => rfl
        · cases hc
      · cases hc
    · cases hc
  · repeat' (split at hc)
    all_goals cases hc
  · repeat' (split at hc)
    all_goals cases hc
  · repeat' (split at hc)
    all_goals cases hc
  · repeat' (split at hc)
    all_goals cases hc
  · rename_i t m k ok ho
    split at hc
    · rename_i m' k' kt e hm hk hu
      split at hc
      · rename_i kk z hkk hz
        cases hc
        exact lkp_sound hr h ho hm hk hu hkk hz hv
      · cases hc
    · cases hc
  · repeat' (split at hc)
    all_goals cases hc
  · repeat' (split at hc)
    all_goals cases hc
  · repeat' (split at hc)
    all_goals cases hc
  · repeat' (split at hc)
    all_goals cases hc
  · split at hc
    · unfold cBuiltin at hc
      repeat' (split at hc)
      all_goals cases hc
    · repeat' (split at hc)
      all_goals cases hc
    · repeat' (split at hc)
      all_goals cases hc
    · cases hc
  · repeat' (split at hc)
    all_goals cases hc
  · cases hc

/-! ### A block is made -/
/-- what making a block comes to, in whatever world -/
def Makes (P : Program) (gl : Nat → Option AV) (ρ : Rho) (r : Operand → Value) (o : Oper) (B : AB) (mk : Nat → AV) : Prop :=
  ∀ w : World, ∃ (ob : Obj) (size : Nat) (u : Value) (d : Nat), (∀ b, BR P gl ρ ⟨b, 0, size⟩ B ob) ∧ (∀ ρ' id, Le ρ ρ' → ρ' id = some ⟨w.heap.size, 0, size⟩ → VR ρ' (mk id) u) ∧
    (execOp r o).run P w = .ok (.value u) { w.alloc ob with drawn := d }
theorem cells_new {T : TypeId} {l : List AV} {vs : List Value} (h : VRs ρ l vs) (h1 : allOne l = true) (b : Nat) : BR P gl ρ ⟨b, 0, vs.length⟩ (.cells T l true false 0) (.cells vs.toArray T (0, 0)) :=
  ⟨[], vs, [], (0, 0), by simp, rfl, by simp, h, h1, fun _ => ⟨rfl, rfl⟩, by unfold FrOk; simp⟩
theorem run_newRow (T : TypeId) (c : Array Value) (w : World) : (newRow T c).run P w = .ok ⟨w.heap.size, 0, none⟩ (w.alloc (.cells c T)) := rfl
theorem alloc_drawn (w : World) (o : Obj) : w.alloc o = { w.alloc o with drawn := w.drawn } := rfl
theorem cvs_one : ∀ {l : List Value} {a : List AV}, cvs l = some a → allOne a = true
  | [], a, h => by cases h; rfl
  | v :: l, a, h => by
    unfold cvs at h
    split at h
    · rename_i x hx
      split at h
      · rename_i s hs
        cases h
        have h1 : oneA x = true := by
          unfold cv1 at hx
          split at hx <;> first | (cases hx; rfl) | cases hx
        unfold allOne
        rw [h1]
        exact cvs_one hs
      · cases h
    · cases h
theorem zeroOf_one {t : TypeId} {z : List AV} (h : zeroOf P t = some z) : allOne z = true := by
  unfold zeroOf at h
  split at h
  · split at h
    · split at h
      · rename_i l hl
        split at h
        · cases h; exact cvs_one hl
        · cases h
      · cases h
    · cases h
  · cases h
theorem allOne_append {a b : List AV} (ha : allOne a = true) (hb : allOne b = true) : allOne (a ++ b) = true := by
  rw [allOne_iff] at *
  intro v hv
  rcases List.mem_append.1 hv with h | h
  · exact ha v h
  · exact hb v h
theorem allOne_sub {a b : List AV} (ha : allOne a = true) (h : ∀ v ∈ b, v ∈ a) : allOne b = true := by
  rw [allOne_iff] at *
  exact fun v hv => ha v (h v hv)
theorem rep_one {z : List AV} (h : allOne z = true) : ∀ n, allOne (rep z n) = true
  | 0 => rfl
  | n + 1 => allOne_append h (rep_one h n)
theorem rep_len (z : List AV) : ∀ n, (rep z n).length = n * z.length
  | 0 => by simp [rep]
  | n + 1 => by simp only [rep, List.length_append, rep_len z n, Nat.succ_mul]; omega
def repV (z : List Value) : Nat → List Value
  | 0 => []
  | n + 1 => z ++ repV z n
theorem rep_rel {z : List AV} {zs : List Value} (h : VRs ρ z zs) : ∀ n, VRs ρ (rep z n) (repV zs n)
  | 0 => .nil
  | n + 1 => h.append (rep_rel h n)
theorem repV_len (z : List Value) : ∀ n, (repV z n).length = n * z.length
  | 0 => by simp [repV]
  | n + 1 => by simp only [repV, List.length_append, repV_len z n, Nat.succ_mul]; omega
theorem zero_row (z : List Value) (hz : 0 < z.length) : ∀ n, ((List.range (n * z.length)).map fun i => z.toArray[i % z.toArray.size]!) = repV z n
  | 0 => by simp [repV]
  | n + 1 => by
    rw [show (n + 1) * z.length = z.length + n * z.length by rw [Nat.succ_mul]; omega, List.range_add, List.map_append, List.map_map]
    have h1 : ((List.range z.length).map fun i => z.toArray[i % z.toArray.size]!) = z := by
      apply List.ext_getElem?
      intro i
      by_cases hi : i < z.length
      · simp [hi, Nat.mod_eq_of_lt hi]
      · simp [hi, List.getElem?_eq_none (Nat.le_of_not_lt hi)]
    have h2 : ((List.range (n * z.length)).map ((fun i => z.toArray[i % z.toArray.size]!) ∘ fun x => z.length + x)) = repV z n := by
      rw [← zero_row z hz n]
      apply List.map_congr_left
      intro i _
      simp
    rw [h1, h2]
    rfl
theorem zero_rowA (z : Array Value) (hz : 0 < z.size) (n : Nat) : ((Array.range (n * z.size)).map fun i => z[i % z.size]!) = (repV z.toList n).toArray := by
  apply Array.toList_inj.1
  have := zero_row z.toList (by simpa using hz) n
  simp only [Array.toArray_toList, Array.length_toList] at this
  rw [Array.toList_map, Array.toList_range, this]

section
variable (hr : OR ρ n ts r)
theorem alloc_makes {t : TypeId} {z : List AV} {o : Oper} (ho : o.op = .alloc t) (hz : zeroOf P t = some z) : Makes P gl ρ r o (.cells t z true false 0) (fun id => .ptr id 0) := fun w => by
  obtain ⟨v, h1, h2, h3⟩ := zeroOf_run (ρ := ρ) hz
  refine ⟨.cells v.cells t, v.cells.toList.length, .pointer (some ⟨w.heap.size, 0, none⟩), w.drawn, fun b => by simpa using cells_new (P := P) (gl := gl) (T := t) h1 (zeroOf_one hz) b, fun ρ' id _ hid => .ptr id 0 _ hid, ?_⟩
  simp only [execOp, ho]
  refine lift ?_
  simp only [Instr.alloc, Sem.run_bind, h3, Result.andThen, newVar, run_newRow, Sem.run_pure]
  rfl
include hr in
theorem box_makes {t : TypeId} {m : Nat} {x : Operand} {x' : X} {o : Oper} {B : AB} {mk : Nat → AV} (ho : o.op = .box t x) (hx : cX n x = some x') (h : boxA t m (x'.ev ts) = some (B, mk)) : Makes P gl ρ r o B mk := fun w => by
  have hv := (hr _ _ hx).cells
  unfold boxA at h
  split at h
  · split at h
    · rename_i h1
      cases h
      refine ⟨.cells (r x).cells t, (r x).cells.toList.length, .pointer (some ⟨w.heap.size, 0, none⟩), w.drawn, fun b => by simpa using cells_new (P := P) (gl := gl) (T := t) hv h1 b, fun ρ' id _ hid => .ptr id 0 _ hid, ?_⟩
      simp only [execOp, ho]
      refine lift ?_
      simp only [Instr.box, newVar, Sem.run_bind, run_newRow, Result.andThen, Sem.run_pure]
      rfl
    · cases h
  · cases h
include hr in
theorem bslA_sound (esz : Nat) : ∀ {ps : List (Nat × Operand)} {qs : List (Nat × X)} {l l' : List AV} {vs : List Value}, cPartsL n ps = some qs → bslA ts esz qs l = some l' → VRs ρ l vs → allOne l = true →
    allOne l' = true ∧ ∃ us, VRs ρ l' us ∧ us.length = vs.length ∧ Instr.fill (fun i => some (i * esz, esz)) vs.toArray (ps.map fun p => (p.1, r p.2)) = some us.toArray
  | [], qs, l, l', vs, hc, h, hv, h1 => by cases hc; cases h; exact ⟨h1, vs, hv, rfl, rfl⟩
  | (i, x) :: ps, qs, l, l', vs, hc, h, hv, h1 => by
    unfold cPartsL at hc
    split at hc
    · rename_i x' q hx hq
      cases hc
      have hxv := (hr _ _ hx).cells
      unfold bslA at h
      rw [nbeq] at h
      by_cases hs : (x'.ev ts).cs.length = esz
      · simp only [hs, decide_true] at h
        split at h
        · rename_i hone
          split at h
          · rename_i l2 hl2
            obtain ⟨hb, rfl⟩ := splice_spec _ _ _ _ hl2
            have hb' : i * esz + (x'.ev ts).cs.length ≤ l.length := hb
            have hlen : (r x).cells.size = esz := by have := hxv.len; simp at this; omega
            have hll := hv.len
            obtain ⟨g1, us, g2, g3, g4⟩ := bslA_sound esz hq h (hv.put hxv (i * esz)) (allOne_append (allOne_sub h1 (fun v hv => List.mem_of_mem_take hv)) (allOne_append hone (allOne_sub h1 (fun v hv => List.mem_of_mem_drop hv))))
            refine ⟨g1, us, g2, ?_, ?_⟩
            · rw [g3]; simp; omega
            · rw [List.map_cons, fill_one (fun i => some (i * esz, esz)) vs i (i * esz) esz (r x) _ rfl hlen (by omega)]
              exact g4
          · cases h
        · cases h
      · simp [hs] at h
    · cases hc
theorem zeroCells_run {e : TypeId} {z : List AV} {esz : Nat} (hs : szOf P e = some (esz + 1)) (hz : zeroOf P e = some z) (m : Nat) : ∃ v : Value, (∀ w, (zeroValue e).run P w = .ok v w) ∧ VRs ρ z v.cells.toList ∧ v.cells.toList.length = esz + 1 ∧
    ((Array.range (m * (esz + 1))).map fun i => v.cells[i % v.cells.size]!) = (repV v.cells.toList m).toArray := by
  obtain ⟨v, h1, h2, h3⟩ := zeroOf_run (ρ := ρ) hz
  rw [hs] at h2
  have hl : v.cells.toList.length = esz + 1 := by rw [← h1.len]; exact (Option.some.inj h2).symm
  have hsz : v.cells.size = esz + 1 := by simpa using hl
  refine ⟨v, h3, h1, hl, ?_⟩
  have := zero_rowA v.cells (by omega) m
  rw [hsz] at this
  rw [hsz]
  exact this
theorem zero_len {m esz : Nat} (h : m * (esz + 1) = 0) : m = 0 := by
  rcases Nat.mul_eq_zero.1 h with h | h
  · exact h
  · omega
include hr in
theorem bsl_makes {t e : TypeId} {len esz : Nat} {z l : List AV} {ps : Array (Nat × Operand)} {qs : List (Nat × X)} {o : Oper} (ho : o.op = .buildSlice t len ps) (hu : P.underlying t = some (.slice e)) (hs : szOf P e = some (esz + 1)) (hz : zeroOf P e = some z)
    (hq : cPartsL n ps.toList = some qs) (hsm : Nat.blt (Nat.mul len (esz + 1)) 1000000 = true) (h : bslA ts (esz + 1) qs (rep z len) = some l) : Makes P gl ρ r o (.cells e l true false 0) (fun id => .sl id 0 len len true (esz + 1)) := fun w => by
  obtain ⟨zv, g0, g1, g2, g4⟩ := zeroCells_run (P := P) (ρ := ρ) hs hz len
  obtain ⟨k1, us, k2, k3, k4⟩ := bslA_sound hr (esz + 1) hq h (rep_rel g1 len) (rep_one (zeroOf_one hz) len)
  have hmap : (ps.map fun p => (p.1, r p.2)).toList = ps.toList.map fun p => (p.1, r p.2) := by simp
  have hlt : len * (esz + 1) < 1000000 := by rw [nblt] at hsm; exact of_decide_eq_true hsm
  have hul : us.length = len * (esz + 1) := by rw [k3, repV_len, g2]
  refine ⟨.cells us.toArray e, us.length, .slice (some ⟨w.heap.size, 0, none⟩) len len, w.drawn, fun b => cells_new k2 k1 b, fun ρ' id _ hid => ?_, ?_⟩
  · exact .sl id 0 len len true (esz + 1) _ _ _ hid (Nat.le_refl _) (Nat.le_refl _) (fun _ => rfl) (by simp; omega) (fun _ => rfl)
  · simp only [execOp, ho]
    refine lift ?_
    have hn : ¬ (len * (esz + 1) > 2 ^ 24) := by omega
    by_cases hm : len * (esz + 1) = 0
    · have hm0 := zero_len hm
      subst hm0
      have hz0 : ((Array.range 0).map fun x => (#[] : Array Value)[x % (#[] : Array Value).size]!) = (repV zv.cells.toList 0).toArray := by simp [repV]
      simp only [Instr.buildSlice, Sem.run_bind, und_of hu, Result.andThen, szOf_run hs, Nat.zero_mul, gt_iff_lt, Nat.not_lt_zero, if_false, Sem.run_pure, if_true, hmap, hz0, k4, run_newRow]
      rfl
    · simp only [Instr.buildSlice, Sem.run_bind, und_of hu, Result.andThen, szOf_run hs, hn, if_false, Sem.run_pure, hm, g0, g4, hmap, k4, run_newRow]
      rfl
set_option maxRecDepth 4000 in
include hr in
theorem msl_makes {t e : TypeId} {esz bytes : Nat} {z : List AV} {x y : Operand} {x' y' : X} {o : Oper} {B : AB} {mk : Nat → AV} (ho : o.op = .makeSlice t x y) (hu : P.underlying t = some (.slice e)) (hs : szOf P e = some (esz + 1)) (hby : byOf P e = some bytes)
    (hz : zeroOf P e = some z) (hx : cX n x = some x') (hy : cX n y = some y') (h : mslA e (esz + 1) bytes z (x'.ev ts) (y'.ev ts) = some (B, mk)) : Makes P gl ρ r o B mk := fun w => by
  have hvx := hr _ _ hx
  have hvy := hr _ _ hy
  unfold mslA at h
  split at h
  · rename_i l hl
    split at h
    · rename_i c hcc
      split at h
      · rename_i hle
        split at h
        · rename_i hfit
          cases h
          obtain ⟨k1, hk1⟩ := asNat_sound hl hvx
          obtain ⟨k2, hk2⟩ := asNat_sound hcc hvy
          rw [nble] at hle
          rw [nblt] at hfit
          have hle := of_decide_eq_true hle
          have hfit := of_decide_eq_true hfit
          obtain ⟨zv, g0, g1, g2, g4⟩ := zeroCells_run (P := P) (ρ := ρ) hs hz c
          unfold byOf at hby
          split at hby
          · rename_i ii hii
            cases hby
            have hfit : (ii.bytes + 1) * c < 281474976710656 := hfit
            have hcb : ii.bytes * c < 281474976710656 := by
              have : ii.bytes * c ≤ (ii.bytes + 1) * c := Nat.mul_le_mul_right _ (by omega)
              omega
            have hc2 : c < 281474976710656 := by
              have : 1 * c ≤ (ii.bytes + 1) * c := Nat.mul_le_mul_right _ (by omega)
              omega
            have hw1 : IntKind.i64.wrap (l : Int) = (l : Int) := wrap_small .i64 l (by show l < 9223372036854775808; omega)
            have hw2 : IntKind.i64.wrap (c : Int) = (c : Int) := wrap_small .i64 c (by show c < 9223372036854775808; omega)
            refine ⟨.cells (repV zv.cells.toList c).toArray e, (repV zv.cells.toList c).length, .slice (some ⟨w.heap.size, 0, none⟩) l c, w.drawn, fun b => cells_new (rep_rel g1 c) (rep_one (zeroOf_one hz) c) b, fun ρ' id _ hid => ?_, ?_⟩
            · refine .sl id 0 l c true (esz + 1) _ _ _ hid hle (Nat.le_refl _) (fun _ => rfl) ?_ (fun _ => rfl)
              show 0 + 0 + c * (esz + 1) ≤ (repV zv.cells.toList c).length
              rw [repV_len, g2]; omega
            · simp only [execOp, ho, hk1, hk2]
              refine lift ?_
              have hti := fun w => run_typeInfo (P := P) w hii
              have t3 : (decide ((c : Int) < 0) || decide ((ii.bytes : Int) * (c : Int) > 2 ^ 48)) = false := by
                have h48 : ((2 : Int) ^ 48) = 281474976710656 := rfl
                have : ((ii.bytes * c : Nat) : Int) < 281474976710656 := by exact Int.ofNat_lt.2 hcb
                rw [Int.natCast_mul] at this
                rw [h48, decide_eq_false (show ¬ ((c : Int) < 0) by omega), decide_eq_false (by omega)]
                rfl
              have t1 : decide ((l : Int) < 0) = false := decide_eq_false (by omega)
              have t4 : decide ((l : Int) > (c : Int)) = false := decide_eq_false (by omega)
              have hask : ∀ (k : Nat) (w : World), (askRoom k).run P w = .ok () w := fun k w => by
                unfold askRoom; split <;> rfl
              have hasi : ∀ (k : IntKind) (i : Int) (w : World), (asInt (.int k i)).run P w = .ok i w := fun _ _ _ => rfl
              by_cases hm : c * (esz + 1) = 0
              · have hm0 := zero_len hm
                subst hm0
                have hz0 : ((Array.range 0).map fun x => (#[] : Array Value)[x % (#[] : Array Value).size]!) = (repV zv.cells.toList 0).toArray := by simp [repV]
                simp only [Instr.makeSlice, Sem.run_bind, und_of hu, Result.andThen, hasi, hti, hw1, hw2, t1, t3, t4, Bool.or_self, Bool.false_eq_true, if_false, hask, Int.toNat_natCast, szOf_run hs, Sem.run_pure, Nat.zero_mul, if_true, hz0, run_newRow]
                rfl
              · simp only [Instr.makeSlice, Sem.run_bind, und_of hu, Result.andThen, hasi, hti, hw1, hw2, t1, t3, t4, Bool.or_self, Bool.false_eq_true, if_false, hask, Int.toNat_natCast, szOf_run hs, Sem.run_pure, hm, g0, g4, run_newRow]
                rfl
          · cases hby
        · cases h
      · cases h
    · cases h
  · cases h
theorem mkmap_makes {t : TypeId} {o : Oper} (ho : o.op = .makeMap t none) : Makes P gl ρ r o (.map [] 0) (fun id => .map id) := fun w => by
  refine ⟨.map #[] 0, 0, .map (some w.heap.size), w.drawn, fun b => ⟨[], rfl, trivial⟩, fun ρ' id _ hid => .map id _ hid, ?_⟩
  simp only [execOp, ho]
  exact lift rfl
include hr in
theorem rngs_makes {t : TypeId} {x : Operand} {x' : X} {o : Oper} {B : AB} {mk : Nat → AV} (ho : o.op = .range t x) (hu : P.underlying t = some .string) (hx : cX n x = some x') (h : rngsA (x'.ev ts) = some (B, mk)) : Makes P gl ρ r o B mk := fun w => by
  have hv := hr _ _ hx
  unfold rngsA at h
  split at h
  · rename_i s ex
    rw [ex] at hv
    cases h
    generalize he : r x = rx at hv
    cases hv with
    | str _ hlt =>
      refine ⟨.stringIter (bsN s) 0, 0, .pointer (some ⟨w.heap.size, 0, none⟩), w.drawn, fun b => ⟨rfl, hlt, rfl⟩, fun ρ' id _ hid => .ptr id 0 _ hid, ?_⟩
      simp only [execOp, ho, he]
      refine lift ?_
      simp only [Instr.range, Sem.run_bind, und_of hu, Result.andThen, Sem.run_pure]
      rfl
  · cases h
theorem bytes_rel (s : List Nat) (hs : ∀ x ∈ s, x < 256) : VRs ρ (bytesOf s) (s.map fun (c : Nat) => Value.int .u8 (c : Int)) := by
  induction s with
  | nil => exact .nil
  | cons c s ih => exact .cons _ _ _ _ (.int .u8 _) (ih (fun x hx => hs x (by simp [hx])))
theorem bytes_one (s : List Nat) : allOne (bytesOf s) = true := by
  rw [allOne_iff]
  intro v hv
  obtain ⟨c, _, rfl⟩ := List.mem_map.1 hv
  rfl
theorem bsN_cells (s : List Nat) (hs : ∀ x ∈ s, x < 256) : ((bsN s).data.map fun b => Value.int .u8 b.toNat) = (s.map fun (c : Nat) => Value.int .u8 (c : Int)).toArray := by
  apply Array.toList_inj.1
  simp only [bsN, Array.toList_map, List.map_map]
  apply List.map_congr_left
  intro c hc
  have := hs c hc
  simp only [Function.comp_apply, UInt8.toNat_ofNat']
  rw [Nat.mod_eq_of_lt (by omega)]
theorem modify_push {α : Type} (h : Array α) (o : α) (f : α → α) : (h.push o).modify h.size f = h.push (f o) := by
  apply Array.ext
  · simp
  · intro i h1 h2
    simp only [Array.getElem_modify, Array.getElem_push]
    simp at h2
    by_cases hi : i < h.size
    · simp [hi, show h.size ≠ i by omega]
    · have : h.size = i := by omega
      simp [this]
theorem run_markStringish (c : Array Value) (e : TypeId) (w : World) : (markStringish ⟨w.heap.size, 0, none⟩).run P (w.alloc (.cells c e)) = .ok () (w.alloc (.cells c e (c.size, c.size + 1))) := by
  have hs : (w.alloc (.cells c e)).shape? w.heap.size = some (e, c.size) := by
    simp only [World.shape?]
    rw [heapAlloc, if_pos rfl]
  simp only [markStringish, Sem.run_bind, run_shape, hs, Result.andThen]
  show Result.ok () _ = _
  congr 1
  simp only [World.freeze, World.alloc, Nat.one_ne_zero, if_false, modify_push]
  rfl
include hr in
theorem s2b_makes {s d e : TypeId} {x : Operand} {x' : X} {o : Oper} {B : AB} {mk : Nat → AV} (ho : o.op = .convert s d x) (hx : cX n x = some x') (h1 : P.underlying s = some .string) (h2 : P.underlying d = some (.slice e)) (h3 : isByte P e = true)
    (h : s2bA e (x'.ev ts) = some (B, mk)) : Makes P gl ρ r o B mk := fun w => by
  have hv := hr _ _ hx
  have he' : P.underlying e = some (.int .u8) := by
    unfold isByte at h3
    split at h3
    · assumption
    · cases h3
  unfold s2bA at h
  split at h
  · rename_i q ex
    rw [ex] at hv
    split at h
    · rename_i hlt0
      cases h
      generalize he : r x = rx at hv
      cases hv with
      | str _ hlt =>
        have hcap : ∀ w : World, ∃ c, q.length ≤ c ∧ (choose (.appendCap q.length 0 e)).run P w = .ok c { w with drawn := w.drawn + 1 } := fun w =>
          ⟨_, Nat.le_add_right _ _, rfl⟩
        obtain ⟨c, hc1, hc2⟩ := hcap w
        have hlen : (q.map fun (c : Nat) => Value.int .u8 (c : Int)).length = q.length := by simp
        refine ⟨.cells ((q.map fun (c : Nat) => Value.int .u8 (c : Int)) ++ List.replicate (c - q.length) (Value.int .u8 0)).toArray e (c, c + 1), c, .slice (some ⟨w.heap.size, 0, none⟩) q.length c, w.drawn + 1, fun b => ?_, fun ρ' id _ hid => ?_, ?_⟩
        · refine ⟨[], _, List.replicate (c - q.length) (Value.int .u8 0), (c, c + 1), by simp, rfl, by simp; omega, bytes_rel q hlt, bytes_one q, fun hh => (by cases hh), ?_⟩
          unfold FrOk
          rw [if_pos rfl]
          intro o ho1 ho2
          simp only at ho1 ho2
          omega
        · exact .sl id 0 q.length q.length false 1 _ _ _ hid (Nat.le_refl _) hc1 (fun hh => (by cases hh)) (by simp) (fun _ => rfl)
        · simp only [execOp, ho, he]
          refine lift ?_
          have hcv : (convert s d (.string (bsN q))).run P w = (Conv.stringToBytes e (bsN q)).run P w := by
            simp only [convert, Sem.run_bind, und_of h1, und_of h2, und_of he', Result.andThen]
          rw [hcv]
          simp only [Conv.stringToBytes, bsN_size, Sem.run_bind, hc2, Result.andThen, run_newRow, bsN_cells q hlt]
          have hsz : ((q.map fun (c : Nat) => Value.int .u8 (c : Int)).toArray ++ Array.replicate (c - q.length) (Value.int .u8 0)) = ((q.map fun (c : Nat) => Value.int .u8 (c : Int)) ++ List.replicate (c - q.length) (Value.int .u8 0)).toArray := by
            apply Array.toList_inj.1; simp
          have hm := run_markStringish (P := P) ((q.map fun (c : Nat) => Value.int .u8 (c : Int)) ++ List.replicate (c - q.length) (Value.int .u8 0)).toArray e { w with drawn := w.drawn + 1 }
          have hcs : ((q.map fun (c : Nat) => Value.int .u8 (c : Int)) ++ List.replicate (c - q.length) (Value.int .u8 0)).toArray.size = c := by simp; omega
          rw [hcs] at hm
          simp only [hsz, hm, Sem.run_pure]
          rfl
    · cases h
  · cases h
include hr in
theorem evA_makes {o : Oper} {i : AI} {B : AB} {mk : Nat → AV} (hc : cOp P gl n o = some (.a i)) (hv : evA i ts = some (B, mk)) : Makes P gl ρ r o B mk := by
  unfold cOp at hc
  split at hc
  · repeat' (split at hc)
    all_goals cases hc
  · repeat' (split at hc)
    all_goals cases hc
  · repeat' (split at hc)
    all_goals cases hc
  · rename_i t ho
    split at hc
    · rename_i z hz; cases hc; cases hv; exact alloc_makes ho hz
    · cases hc
  · rename_i t x ho
    split at hc
    · rename_i x' s hx hs; cases hc; exact box_makes hr ho hx hv
    · cases hc
  · unfold cBuild at hc
    repeat' (split at hc)
    all_goals cases hc
  · rename_i t len ps ho
    split at hc
    · rename_i e hu
      split at hc
      · rename_i esz z qs hs hz hq
        split at hc
        · rename_i hsm
          cases hc
          simp only [evA] at hv
          split at hv
          · rename_i l hl; cases hv; exact bsl_makes hr ho hu hs hz hq hsm hl
          · cases hv
        · cases hc
      · cases hc
    · cases hc
  · repeat' (split at hc)
    all_goals cases hc
  · repeat' (split at hc)
    all_goals cases hc
  · repeat' (split at hc)
    all_goals cases hc
  · repeat' (split at hc)
    all_goals cases hc
  · repeat' (split at hc)
    all_goals cases hc
  · rename_i s d x ho
    split at hc
    · rename_i x' hx
      unfold cConv at hc
      split at hc
      · cases hc
      · cases hc
      · split at hc <;> cases hc
      · rename_i e h1 h2
        split at hc
        · rename_i h3; cases hc; exact s2b_makes hr ho hx h1 h2 h3 hv
        · cases hc
      · split at hc <;> cases hc
      · split at hc <;> cases hc
      · cases hc
    · cases hc
  · repeat' (split at hc)
    all_goals cases hc
  · repeat' (split at hc)
    all_goals cases hc
  · rename_i t rs ho
    split at hc
    · cases hc; cases hv; exact mkmap_makes ho
    · cases hc
  · rename_i t l c ho
    split at hc
    · rename_i e hu
      split at hc
      · rename_i esz b z l' c' hs hb hz hl hcc
        cases hc
        exact msl_makes hr ho hu hs hb hz hl hcc hv
      · cases hc
    · cases hc
  · repeat' (split at hc)
    all_goals cases hc
  · repeat' (split at hc)
    all_goals cases hc
  · repeat' (split at hc)
    all_goals cases hc
  · repeat' (split at hc)
    all_goals cases hc
  · repeat' (split at hc)
    all_goals cases hc
  · repeat' (split at hc)
    all_goals cases hc
  · repeat' (split at hc)
    all_goals cases hc
  · rename_i t x ho
    split at hc
    · rename_i x' hx hu; cases hc; exact rngs_makes hr ho hu hx hv
    · cases hc
  · repeat' (split at hc)
    all_goals cases hc
  · repeat' (split at hc)
    all_goals cases hc
  · split at hc
    · unfold cBuiltin at hc
      repeat' (split at hc)
      all_goals cases hc
    · repeat' (split at hc)
      all_goals cases hc
    · repeat' (split at hc)
      all_goals cases hc
    · cases hc
  · repeat' (split at hc)
    all_goals cases hc
  · cases hc
end
end Go.Proofs.YtjiaoppefinljaaGreatDoor.Ab
