/- Operations that act on memory do what the model's do. -/
import Derived.Test.YtjiaoppefinljaaGreatDoorKd
import Derived.Deep.Upon
import Derived.Lib.UnsafeStr
import Derived.Lib.MakeNoZero
import Derived.Conc.AtomicLaws2
set_option linter.unusedVariables false
set_option linter.unusedSimpArgs false
set_option linter.unusedSectionVars false
namespace Go.Proofs.YtjiaoppefinljaaGreatDoor.Ab
open Go
variable {P : Program} {gl : Nat → Option AV} {F : Nat → Prop} {w0 : World} {ρ : Rho} {σ σ' : St} {w : World} {n : Nat} {ts : Tr AV} {r : Operand → Value}

/-- what an operation that acts comes to -/
def Acts (P : Program) (gl : Nat → Option AV) (F : Nat → Prop) (w0 : World) (ρ : Rho) (σ : St) (w : World) (s : Sem Value) (v : AV) (σ' : St) : Prop :=
  ∃ u ρ' w', VR ρ' v u ∧ s.run P w = .ok u w' ∧ HR P gl F w0 ρ' σ' w' ∧ Ext ρ σ ρ' σ'

/-! ### Cells are written -/
theorem write_cells (h : HR P gl F w0 ρ σ w) {id off : Nat} {L : Loc} {T : TypeId} {l new l' : List AV} {cl sg : Bool} {fz : Nat} {us : List Value} (hL : ρ id = some L) (hg : σ.get id = some (.cells T l cl sg fz)) (hs : spliceX off l new = some l')
    (hus : VRs ρ new us) (h1 : allOne new = true) (hfz : fz ≤ off) (hb : L.base + off + new.length ≤ L.size) :
    ∃ w' o', (storeCells ⟨L.b, L.base + off, none⟩ us).run P w = .ok () w' ∧ Wrote w w' L.b o' ∧ BR P gl ρ L (.cells T l' cl sg fz) o' ∧ HR P gl F w0 ρ (σ.set id (.cells T l' cl sg fz)) w' := by
  obtain ⟨pre, vs, post, fr, c⟩ := h.cells hL hg
  obtain ⟨k1, rfl⟩ := spliceX_spec _ _ _ _ hs
  have hul := hus.len
  have hvl := c.rel.len
  have hbase := c.base
  have hsize := c.size
  simp only [List.length_append] at hsize
  have hst := run_storeCells_cells (P := P) L.b (L.base + off) us 0 w (fun j hj => by
      obtain ⟨v, hv⟩ := c.some (o := L.base + off + 0 + j) (by omega)
      rw [hv]; rfl) (fun j hj => c.free (by omega) (by omega)) (hus.one h1)
  simp only [Nat.add_zero] at hst
  have hsplit : pre ++ (vs ++ post) = (pre ++ vs.take off) ++ (((vs.drop off ++ post).take us.length) ++ ((vs.drop off ++ post).drop us.length)) := by
    rw [List.take_append_drop, List.append_assoc, ← List.append_assoc (vs.take off), List.take_append_drop]
  have hat := c.at_
  rw [hsplit] at hat
  have hpl : (pre ++ vs.take off).length = L.base + off := by simp; omega
  have hset := setCells_at L.b T fr us (pre ++ vs.take off) ((vs.drop off ++ post).take us.length) ((vs.drop off ++ post).drop us.length) w hat (by simp; omega)
  rw [hpl] at hset
  rw [hset] at hst
  have hnew : (pre ++ vs.take off ++ (us ++ (vs.drop off ++ post).drop us.length)) = pre ++ ((vs.take off ++ (us ++ vs.drop (off + us.length))) ++ post.drop (us.length - (vs.length - off))) := by
    rw [List.drop_append, List.drop_drop, List.length_drop]
    simp only [List.append_assoc]
  have hBR : BR P gl ρ L (.cells T (l.take off ++ (new ++ l.drop (off + new.length))) cl sg fz) (.cells (pre ++ vs.take off ++ (us ++ (vs.drop off ++ post).drop us.length)).toArray T fr) := by
    refine ⟨pre, vs.take off ++ (us ++ vs.drop (off + us.length)), post.drop (us.length - (vs.length - off)), fr, by rw [hnew], hbase, ?_, c.rel.put hus off, ?_, fun e => ?_, c.fr_⟩
    · simp only [List.length_append, List.length_take, List.length_drop]
      omega
    · exact allOne_append (allOne_sub c.one (fun v hv => List.mem_of_mem_take hv)) (allOne_append h1 (allOne_sub c.one (fun v hv => List.mem_of_mem_drop hv)))
    · obtain ⟨e1, e2⟩ := c.cl_ e
      exact ⟨e1, by rw [e2]; simp⟩
  have hW := Wrote.setRow (cs := (pre ++ vs.take off ++ (us ++ (vs.drop off ++ post).drop us.length)).toArray) c.at_
  exact ⟨_, _, hst, hW, hBR, h.write hL (by rw [hg]; simp) (nro_cells hg (Nat.le_trans hfz k1)) hW hBR⟩
theorem splice_X {α : Type} {k : Nat} {l vs l' : List α} (h : splice k l vs = some l') : spliceX k l vs = some l' ∧ k + vs.length ≤ l.length := by
  obtain ⟨h1, h2⟩ := splice_spec _ _ _ _ h
  refine ⟨?_, h1⟩
  have hx : ∀ (k : Nat) (l : List α), k ≤ l.length → ∃ r, spliceX k l vs = some r := by
    intro k
    induction k with
    | zero => intro l _; cases l <;> exact ⟨_, rfl⟩
    | succ k ih =>
      intro l hl
      cases l with
      | nil => simp at hl
      | cons a l =>
        obtain ⟨r, hr⟩ := ih l (by simpa using hl)
        exact ⟨a :: r, by simp only [spliceX, hr]⟩
  obtain ⟨r, hr⟩ := hx k l (by omega)
  rw [hr, (spliceX_spec _ _ _ _ hr).2, h2]

section
variable (hr : OR ρ n ts r) (h : HR P gl F w0 ρ σ w)
include hr h
theorem sto_sound {t : TypeId} {s : Nat} {x v : Operand} {x' v' : X} {o : Oper} (ho : o.op = .store t x v) (hx : cX n x = some x') (hv : cX n v = some v') (hs : szOf P t = some s) (hl : stoA s σ (x'.ev ts) (v'.ev ts) = some σ') :
    ∃ w', (execOp r o).run P w = .ok .skip w' ∧ HR P gl F w0 ρ σ' w' ∧ Ext ρ σ ρ σ' := by
  have hvx := hr _ _ hx
  have hvv := (hr _ _ hv).cells
  unfold stoA at hl
  split at hl
  · rename_i id off ex
    rw [ex] at hvx
    split at hl
    · rename_i T l cl sg fz hg
      split at hl
      · rename_i hln
        split at hl
        · rename_i hfz
          split at hl
          · rename_i hone
            split at hl
            · rename_i l' hl'
              cases hl
              generalize he : r x = rx at hvx
              cases hvx with
              | ptr _ _ L hL =>
                obtain ⟨g1, g2⟩ := splice_X hl'
                obtain ⟨pre, vs, post, fr, c⟩ := h.cells hL hg
                have := c.len
                obtain ⟨w', o', k1, k2, k3, k4⟩ := write_cells h hL hg g1 hvv hone (by rw [nble] at hfz; exact of_decide_eq_true hfz) (by omega)
                refine ⟨w', ?_, k4, Ext.set σ hL _⟩
                simp only [execOp, ho, he]
                have hsz : (r v).cells.size = s := by
                  have := hvv.len
                  rw [nbeq] at hln
                  have := of_decide_eq_true hln
                  simp at *
                  omega
                simp only [Instr.storeAt, Instr.sureAddr, Sem.run_bind, Sem.run_pure, Result.andThen, storeVar, szOf_run hs, hsz, ne_eq, not_true_eq_false, if_false, k1]
            · cases hl
          · cases hl
        · cases hl
      · cases hl
    · cases hl
  · cases hl
end

/-! ### Sources -/
theorem firstCells_zero (size : Nat) (a : Option Addr) (c : Nat) (w : World) : (Builtin.firstCells size 0 (.slice a 0 c)).run P w = .ok #[] w := by
  cases a with
  | none => rfl
  | some a => simp only [Builtin.firstCells, Nat.zero_mul]; rfl
theorem elems_src (h : HR P gl F w0 ρ σ w) {esz m : Nat} {v : AV} {new : List AV} {u : Value} (hv : VR ρ v u) (he : elems σ esz v = some (m, new)) :
    ∃ us, VRs ρ new us ∧ allOne new = true ∧ us.length = m * esz ∧ (∀ w' : World, (Builtin.lenOf u).run P w' = .ok m w') ∧ (∀ w' : World, w'.heap = w.heap → (Builtin.firstCells esz m u).run P w' = .ok us.toArray w') := by
  unfold elems at he
  split at he
  · cases he; cases hv
    exact ⟨[], .nil, rfl, by simp, fun w' => rfl, fun w' _ => rfl⟩
  · rename_i s
    split at he
    · cases he
      cases hv with
      | str _ hlt =>
        refine ⟨_, bytes_rel s hlt, bytes_one s, by simp, fun w' => by simp only [Builtin.lenOf, bsN_size]; rfl, fun w' _ => ?_⟩
        simp only [Builtin.firstCells]
        have : (bsN s).extract 0 s.length = bsN s := by rw [bsN_extract]; simp
        rw [this, bsN_cells s hlt]
        rfl
    · cases he
  · rename_i id off len cap ex e
    split at he
    · rename_i hez
      have hez := Nat.eq_of_beq_eq_true hez
      split at he
      · rename_i T l cl sg fz hg
        split at he
        · rename_i q hq
          cases he
          cases hv with
          | sl _ _ _ _ _ _ L a c hL p1 p2 p3 p4 p5 =>
            obtain ⟨pre, vs, post, fr, cc⟩ := h.cells hL hg
            obtain ⟨g1, g2, g3⟩ := cc.load (P := P) hq
            refine ⟨_, g2, allOne_sub cc.one (fun v hv => ?_), g3, fun w' => rfl, fun w' hw => ?_⟩
            · rw [(sub_spec hq).2] at hv; exact List.mem_of_mem_drop (List.mem_of_mem_take hv)
            · by_cases hc : c = 0
              · have : m = 0 := by omega
                subst this
                rw [firstCells_zero]
                rw [show Nat.mul 0 esz = 0 from Nat.zero_mul esz]
                simp
              · have hq2 := hq
                rw [p5 hc]
                have cc' : Cells ρ w' L T l cl sg fz pre vs post fr := ⟨by rw [hw]; exact cc.at_, cc.base, cc.size, cc.rel, cc.one, cc.cl_, cc.fr_⟩
                obtain ⟨k1, _, _⟩ := cc'.load (P := P) hq
                exact k1
        · cases he
      · cases he
    · cases he
  · cases he
/-- the conditions under which append makes a new row -/
theorem cap_small {need old : Nat} (h : old < need) : Builtin.nextslicecap need old ≤ 2 * need + 1000 := by
  have hg : ∀ r c, c ≤ 2 * need + 1000 → Builtin.growBy need r c ≤ 2 * need + 1000 := by
    intro r
    induction r with
    | zero => intro c hc; exact hc
    | succ r ih =>
      intro c hc
      unfold Builtin.growBy
      split
      · exact hc
      · exact ih _ (by omega)
  unfold Builtin.nextslicecap
  split
  · omega
  · split
    · omega
    · exact hg 4 old (by omega)
theorem fits_spec {need bytes : Nat} (h : fits need bytes = true) : need ≤ 9223372036854775807 ∧ ∀ old, old < need → Builtin.nextslicecap need old * bytes ≤ 281474976710656 := by
  unfold fits at h
  rw [nblt] at h
  have h1 : (need * 2 + 1000) * (bytes + 1) < 281474976710656 := of_decide_eq_true h
  have h2 : (need * 2 + 1000) * 1 ≤ (need * 2 + 1000) * (bytes + 1) := Nat.mul_le_mul_left _ (by omega)
  refine ⟨by omega, fun old ho => ?_⟩
  have h3 := cap_small ho
  have h4 : Builtin.nextslicecap need old * bytes ≤ (2 * need + 1000) * bytes := Nat.mul_le_mul_right _ h3
  have h5 : (2 * need + 1000) * bytes ≤ (need * 2 + 1000) * (bytes + 1) := by
    rw [Nat.mul_comm 2 need]
    exact Nat.mul_le_mul_left _ (by omega)
  omega
/-- what append adds, whether elements of a slice, bytes of a text, or what 'make' would make -/
structure Adds (P : Program) (e tx : TypeId) (size bytes : Nat) (x : Value) (m : Nat) (us : List Value) (w : World) : Prop where
  room : ∀ (t ty : TypeId) (b o sLen sCap : Nat), P.underlying t = some (.slice e) → sLen + m ≤ sCap → (∀ j, j < us.length → (w.cell? ⟨b, o + sLen * size + j, none⟩).isSome = true) → (∀ j, j < us.length → w.frozen? ⟨b, o + sLen * size + j, none⟩ = false) →
    (Builtin.append_ #[t, tx] ty #[.slice (some ⟨b, o, none⟩) sLen sCap, x]).run P w = .ok (.slice (some ⟨b, o, none⟩) (sLen + m) sCap) (w.setCells b (o + sLen * size) us)
  grow : ∀ (t ty : TypeId) (base : Option Addr) (sLen sCap : Nat) (olds : List Value), P.underlying t = some (.slice e) → (Builtin.firstCells size sLen (.slice base sLen sCap)).run P w.drew = .ok olds.toArray w.drew → sCap < sLen + m → fits (sLen + m) bytes = true →
    ∃ zs : List Value, (Builtin.append_ #[t, tx] ty #[.slice base sLen sCap, x]).run P w = .ok (.slice (some ⟨w.heap.size, 0, none⟩) (sLen + m) (grownCap w (sLen + m) sCap e))
      (w.drew.alloc (.cells ((olds ++ us) ++ repV zs (grownCap w (sLen + m) sCap e - (sLen + m))).toArray e)) ∧ zs.length = size
  none : ∀ (t ty : TypeId) (base : Option Addr) (sLen sCap : Nat), P.underlying t = some (.slice e) → m = 0 → sLen ≤ sCap → (Builtin.append_ #[t, tx] ty #[.slice base sLen sCap, x]).run P w = .ok (.slice base sLen sCap) w
theorem zeroCells_eq {v : Value} {esz : Nat} (hl : v.cells.toList.length = esz + 1) (k : Nat) : Builtin.zeroCells v.cells k = (repV v.cells.toList k).toArray := by
  have hsz : v.cells.size = esz + 1 := by simpa using hl
  exact zero_rowA v.cells (by omega) k
theorem zeroOf_info {e : TypeId} {z : List AV} (hz : zeroOf P e = some z) : ∃ i v, P.info? e = some i ∧ i.zero = some v ∧ v.cells.toList.length = i.size ∧ z.length = i.size ∧ VRs ρ z v.cells.toList := by
  unfold zeroOf at hz
  split at hz
  · rename_i i hi
    split at hz
    · rename_i v hv
      split at hz
      · rename_i l hl
        split at hz
        · rename_i hb
          cases hz
          have h1 := cvs_sound (ρ := ρ) hl
          have h2 := Nat.eq_of_beq_eq_true hb
          exact ⟨i, v, hi, hv, by rw [← h1.len, h2], h2, h1⟩
        · cases hz
      · cases hz
    · cases hz
  · cases hz
theorem adds_src {e tx : TypeId} {esz bytes m : Nat} {z : List AV} {x : Value} {us : List Value} (hs : szOf P e = some (esz + 1)) (hb : byOf P e = some bytes) (hz : zeroOf P e = some z) (hk : (∃ e', P.underlying tx = some (.slice e')) ∨ P.underlying tx = some .string)
    (hlen : ∀ w' : World, (Builtin.lenOf x).run P w' = .ok m w') (hc : ∀ w' : World, w'.heap = w.heap → (Builtin.firstCells (esz + 1) m x).run P w' = .ok us.toArray w') (hl : us.length = m * (esz + 1)) (h1 : ∀ u ∈ us, u.oneCell' = true) :
    Adds P e tx (esz + 1) bytes x m us w := by
  obtain ⟨i, v, hi, hv, hvl, _, _⟩ := zeroOf_info (P := P) (ρ := fun _ => Option.none) hz
  have hsz : i.size = esz + 1 := by unfold szOf at hs; rw [hi] at hs; exact Option.some.inj hs
  have hby : i.bytes = bytes := by unfold byOf at hb; rw [hi] at hb; exact Option.some.inj hb
  have hS : Src P i.size tx x m us w := ⟨hk, hlen, by rw [hsz]; exact hc w rfl, by rw [hsz]; exact hc w.drew rfl, by rw [hsz]; exact hl, h1⟩
  constructor
  · intro t ty b o sLen sCap ht hroom hcell hfr
    rw [← hsz]
    rw [← hsz] at hcell hfr
    exact run_append_room_src w t tx ty e i ht hi b o sLen sCap x m us hS hroom hcell hfr
  · intro t ty base sLen sCap olds ht hold hg hfit
    obtain ⟨f1, f2⟩ := fits_spec hfit
    refine ⟨v.cells.toList, ?_, by rw [hvl, hsz]⟩
    rw [run_append_grow_src w t tx ty e i v ht hi hv base sLen sCap olds (by rw [hsz]; exact hold) x m us hS hg (by omega) (by rw [hby]; exact f2 _ hg)]
    rw [zeroCells_eq (esz := esz) (by rw [hvl, hsz])]
    simp
  · intro t ty base sLen sCap ht hm hle
    subst hm
    have hu : us = [] := List.eq_nil_of_length_eq_zero (by simpa using hl)
    subst hu
    exact run_append_nothing w t tx ty e i ht hi base sLen sCap hle x hS
theorem adds_zero {e tx : TypeId} {esz bytes m : Nat} {z : List AV} {k kk : IntKind} (hs : szOf P e = some (esz + 1)) (hb : byOf P e = some bytes) (hz : zeroOf P e = some z) (hk : P.underlying tx = some (.int k))
    (h0 : m ≠ 0) (hm : m < 1048576) (hmb : m * (bytes + 1) < 281474976710656) (hone : allOne z = true) : ∃ zs : List Value, VRs ρ z zs ∧ zs.length = esz + 1 ∧ Adds P e tx (esz + 1) bytes (.int kk (m : Int)) m (repV zs m) w := by
  obtain ⟨i, v, hi, hv, hvl, _, hvr⟩ := zeroOf_info (P := P) (ρ := ρ) hz
  have hsz : i.size = esz + 1 := by unfold szOf at hs; rw [hi] at hs; exact Option.some.inj hs
  have hby : i.bytes = bytes := by unfold byOf at hb; rw [hi] at hb; exact Option.some.inj hb
  refine ⟨v.cells.toList, hvr, by rw [hvl, hsz], ?_⟩
  have hw : IntKind.i64.wrap (m : Int) = (m : Int) := wrap_small .i64 m (by show m < 9223372036854775808; omega)
  have h1 : ¬ ((m : Int) < 0) := by omega
  have h2 : ¬ (281474976710656 < (m : Int) * (i.bytes : Int)) := by
    have : m * i.bytes ≤ m * (bytes + 1) := Nat.mul_le_mul_left _ (by omega)
    have h3 : ((m * i.bytes : Nat) : Int) < 281474976710656 := by omega
    rw [Int.natCast_mul] at h3
    omega
  have hasi : ∀ (k : IntKind) (i : Int) (w : World), (asInt (.int k i)).run P w = .ok i w := fun _ _ _ => rfl
  have hzc : Builtin.zeroCells v.cells m = (repV v.cells.toList m).toArray := zeroCells_eq (esz := esz) (by rw [hvl, hsz]) m
  have h48 : ((2 : Int) ^ 48) = 281474976710656 := rfl
  have hone2 := hvr.one hone
  have hm1 : ∀ u ∈ repV v.cells.toList m, u.oneCell' = true := (rep_rel hvr m).one (rep_one hone m)
  have hap : ∀ w' : World, ((if m * (esz + 1) = 0 then pure #[] else do pure (Builtin.zeroCells (← zeroValue e).cells m)) : Sem (Array Value)).run P w' = .ok (repV v.cells.toList m).toArray w' := fun w' => by
    by_cases h0 : m * (esz + 1) = 0
    · rw [if_pos h0, zero_len h0]; rfl
    · rw [if_neg h0]; simp [zeroValue, typeInfo, hi, hv, hzc]
  constructor
  · intro t ty b o sLen sCap ht hroom hcell hfr
    have hst := run_storeCells_cells (P := P) b (o + sLen * (esz + 1)) (repV v.cells.toList m) 0 w (by simpa using hcell) (by simpa using hfr) hm1
    simp only [Nat.add_zero] at hst
    have h0' : ¬ (m * (esz + 1) = 0) := fun e => h0 (zero_len e)
    simp [Builtin.append_, run_underlying ht, run_underlying hk, sizeOf, typeInfo, zeroValue, hi, hv, hsz, hasi, hw, h1, h2, hroom, hzc, Addr.add_lit, hst]
    exact fun h => absurd h h0'
  · intro t ty base sLen sCap olds ht hold hg hfit
    obtain ⟨f1, f2⟩ := fits_spec hfit
    have f3 := f2 sCap hg
    rw [← hby] at f3
    refine ⟨v.cells.toList, ?_, by rw [hvl, hsz]⟩
    have hn : ¬ (sLen + m ≤ sCap) := by omega
    have h63' : ¬ (9223372036854775807 < ((sLen : Int) + (m : Int))) := by omega
    have h48' : ¬ (281474976710656 < Builtin.nextslicecap (sLen + m) sCap * i.bytes) := by omega
    have hzc2 := fun k => zeroCells_eq (esz := esz) (v := v) (by rw [hvl, hsz]) k
    simp [Builtin.append_, run_underlying ht, run_underlying hk, sizeOf, typeInfo, zeroValue, hi, hv, hsz, hasi, hw, h1, h2, hn, h63', h48', Question.forced, hold, newRow, grownCap, hzc2]
    exact fun h => absurd h (fun e => h0 (zero_len e))
  · intro t ty base sLen sCap ht hm hle
    exact absurd hm h0

/-! ### append -/
set_option maxRecDepth 8000 in
theorem app_sound (h : HR P gl F w0 ρ σ w) {e tx t ty : TypeId} {esz bytes m : Nat} {z : List AV} {s : AV} {us : List Value} {new : List AV} {v : AV} {vs x : Value} (ht : P.underlying t = some (.slice e)) (hs : szOf P e = some (esz + 1)) (hz : zeroOf P e = some z)
    (hA : Adds P e tx (esz + 1) bytes x m us w) (hus : VRs ρ new us) (hone : allOne new = true) (hul : us.length = m * (esz + 1)) (hv : VR ρ s vs) (hl : appA e (esz + 1) bytes σ s m new = some (v, σ')) :
    Acts P gl F w0 ρ σ w (Builtin.append_ #[t, tx] ty #[vs, x]) v σ' := by
  have hnl := hus.len
  -- a new row
  have hnew : ∀ (base : Option Addr) (len c : Nat) (old : List AV) (olds : List Value), VRs ρ old olds → allOne old = true → olds.length = len * (esz + 1) → (Builtin.firstCells (esz + 1) len (.slice base len c)).run P w.drew = .ok olds.toArray w.drew → c < len + m →
      vs = .slice base len c → fits (len + m) bytes = true → ∀ (sg : Bool) (fz : Nat) (σ1 : St), HR P gl F w0 ρ σ1 w → Ext ρ σ ρ σ1 →
      Acts P gl F w0 ρ σ w (Builtin.append_ #[t, tx] ty #[vs, x]) (.sl σ1.next 0 (len + m) (len + m) false (esz + 1)) (σ1.add (.cells e (old ++ new) false sg fz)) := by
    intro base len c old olds ho ho1 hol hold hc hvs hfit sg fz σ1 h1 hE
    subst hvs
    obtain ⟨zs, hrun, hzl⟩ := hA.grow t ty base len c olds ht hold hc hfit
    have hge := grownCap_ge w (len + m) c e
    have hsz : ((olds ++ us) ++ repV zs (grownCap w (len + m) c e - (len + m))).length = grownCap w (len + m) c e * (esz + 1) := by
      simp only [List.length_append, repV_len, hol, hul, hzl]
      rw [← Nat.add_mul, ← Nat.add_mul]
      congr 1
      omega
    have hBR : BR P gl ρ ⟨w.heap.size, 0, grownCap w (len + m) c e * (esz + 1)⟩ (.cells e (old ++ new) false sg fz) (.cells ((olds ++ us) ++ repV zs (grownCap w (len + m) c e - (len + m))).toArray e) := by
      refine ⟨[], olds ++ us, repV zs (grownCap w (len + m) c e - (len + m)), (0, 0), by simp, rfl, hsz, ho.append hus, allOne_append ho1 hone, fun hh => (by cases hh), ?_⟩
      unfold FrOk
      split
      · intro o _; simp only; omega
      · simp
    have hmake := (h1.drew (w.drawn + 1)).make (.cells e (old ++ new) false sg fz) _ _ hBR
    refine ⟨_, _, _, .sl σ1.next 0 _ _ _ _ ⟨w.heap.size, 0, grownCap w (len + m) c e * (esz + 1)⟩ _ _ (by simp [upd]) (Nat.le_refl _) hge (fun hh => (by cases hh)) (by simp) (fun _ => rfl), hrun, hmake, hE.trans (Ext.make ρ σ1 _ _)⟩
  unfold appA at hl
  split at hl
  · -- nil
    cases hv
    split at hl
    · cases hl
      exact ⟨_, ρ, w, .nils, hA.none t ty none 0 0 ht rfl (Nat.le_refl _), h, Ext.refl _ _⟩
    · rename_i m
      unfold appNew at hl
      split at hl
      · rename_i hfit
        cases hl
        exact hnew none 0 0 [] [] .nil rfl (by simp) rfl (by omega) rfl hfit false 0 σ h (Ext.refl _ _)
      · cases hl
  · rename_i id off len cap ex ez
    split at hl
    · cases hl
    · rename_i hez
      have hez := Nat.eq_of_beq_eq_true hez
      subst hez
      split at hl
      · cases hl
        cases hv with
        | sl _ _ _ _ _ _ L a c hL p1 p2 p3 p4 p5 =>
          exact ⟨_, ρ, w, .sl _ _ _ _ _ _ L a c hL p1 p2 p3 p4 p5, hA.none t ty (some a) len c ht rfl (by omega), h, Ext.refl _ _⟩
      · rename_i m
        split at hl
        · rename_i T' l cl sg fz hg
          cases hv with
          | sl _ _ _ _ _ _ L a c hL p1 p2 p3 p4 p5 =>
            obtain ⟨pre, vs0, post, fr, cc⟩ := h.cells hL hg
            -- what was there
            have hold : ∀ old, sub l off (len * (esz + 1)) = some old → ∃ olds, VRs ρ old olds ∧ allOne old = true ∧ olds.length = len * (esz + 1) ∧ (Builtin.firstCells (esz + 1) len (.slice (some a) len c)).run P w.drew = .ok olds.toArray w.drew := fun old ho => by
              obtain ⟨us', q1, q2, q3, q4, q5⟩ := elems_src (P := P) h (.sl _ _ _ _ _ _ L a c hL p1 p2 p3 p4 p5) (esz := esz + 1) (m := len) (new := old) (by
                unfold elems
                simp only [hg]
                rw [nbeq, decide_eq_true rfl]
                simp only []
                rw [show Nat.mul len (esz + 1) = len * (esz + 1) from rfl, ho])
              exact ⟨us', q1, q2, q3, q5 w.drew rfl⟩
            split at hl
            · -- surely in place
              rename_i hcap
              rw [nble] at hcap
              have hcap : len + (m + 1) ≤ cap := of_decide_eq_true hcap
              unfold appIn at hl
              split at hl
              · rename_i hfz
                rw [nble] at hfz
                have hfz : fz ≤ off + len * (esz + 1) := of_decide_eq_true hfz
                split at hl
                · rename_i l' hl'
                  cases hl
                  have hul' : us.length = (m + 1) * (esz + 1) := hul
                  have hca : c ≠ 0 := by omega
                  have hmul : (len + (m + 1)) * (esz + 1) ≤ c * (esz + 1) := Nat.mul_le_mul_right _ (by omega)
                  rw [Nat.add_mul] at hmul
                  have hb : L.base + (off + len * (esz + 1)) + new.length ≤ L.size := by omega
                  obtain ⟨w', o', k1, k2, k3, k4⟩ := write_cells (P := P) h hL hg hl' hus hone hfz hb
                  have hcell := fun j (hj : j < us.length) => cc.some (o := L.base + off + len * (esz + 1) + j) (by omega)
                  have hfree := fun j (hj : j < us.length) => cc.free (o := L.base + off + len * (esz + 1) + j) (by omega) (by omega)
                  have hrun := hA.room t ty L.b (L.base + off) len c ht (by omega) (fun j hj => by obtain ⟨v, hv⟩ := hcell j hj; rw [hv]; rfl) hfree
                  have hst := run_storeCells_cells (P := P) L.b (L.base + (off + len * (esz + 1))) us 0 w (fun j hj => by obtain ⟨v, hv⟩ := hcell j hj; rw [show L.base + (off + len * (esz + 1)) + 0 + j = L.base + off + len * (esz + 1) + j by omega, hv]; rfl)
                    (fun j hj => by rw [show L.base + (off + len * (esz + 1)) + 0 + j = L.base + off + len * (esz + 1) + j by omega]; exact hfree j hj) (hus.one hone)
                  have k1 : (storeCells ⟨L.b, L.base + (off + len * (esz + 1)), none⟩ us).run P w = .ok () w' := k1
                  rw [hst] at k1
                  cases k1
                  rw [p5 hca]
                  refine ⟨_, ρ, _, .sl id off _ cap ex (esz + 1) L _ c hL hcap p2 p3 p4 (fun _ => rfl), ?_, k4, Ext.set σ hL _⟩
                  rw [hrun, show L.base + (off + len * (esz + 1)) + 0 = L.base + off + len * (esz + 1) by omega]
                  rfl
                · cases hl
              · cases hl
            · rename_i hcap
              rw [nble] at hcap
              have hcap : ¬ (len + (m + 1) ≤ cap) := of_decide_eq_false hcap
              split at hl
              · -- surely anew
                have hc := p3 rfl
                subst hc
                split at hl
                · rename_i old ho
                  obtain ⟨olds, q1, q2, q3, q4⟩ := hold old ho
                  unfold appNew at hl
                  split at hl
                  · rename_i hfit
                    cases hl
                    exact hnew (some a) len c old olds q1 q2 q3 q4 (by omega) rfl hfit false 0 σ h (Ext.refl _ _)
                  · cases hl
                · cases hl
              · -- either
                unfold appOpen at hl
                split at hl
                · rename_i hcond
                  simp only [Bool.and_eq_true] at hcond
                  obtain ⟨c1, c2, c3⟩ := hcond
                  have c1 := Nat.eq_of_beq_eq_true c1
                  subst c1
                  rw [nble] at c2
                  have c2 : fz ≤ off + len * (esz + 1) := of_decide_eq_true c2
                  split at hl
                  · rename_i old ho
                    cases hl
                    obtain ⟨olds, q1, q2, q3, q4⟩ := hold old ho
                    by_cases hroom : len + (m + 1) ≤ c
                    · -- in place
                      have hul' : us.length = (m + 1) * (esz + 1) := hul
                      have hca : c ≠ 0 := by omega
                      have hmul : (len + (m + 1)) * (esz + 1) ≤ c * (esz + 1) := Nat.mul_le_mul_right _ hroom
                      rw [Nat.add_mul] at hmul
                      have hsub : off + len * (esz + 1) ≤ l.length := (sub_spec ho).1
                      have hcell := fun j (hj : j < us.length) => cc.some (o := L.base + off + len * (esz + 1) + j) (by omega)
                      have hfree := fun j (hj : j < us.length) => cc.free (o := L.base + off + len * (esz + 1) + j) (by omega) (by omega)
                      have hrun := hA.room t ty L.b (L.base + off) len c ht hroom (fun j hj => by obtain ⟨v, hv⟩ := hcell j hj; rw [hv]; rfl) hfree
                      have hvl := cc.rel.len
                      have hbase := cc.base
                      have hsize := cc.size
                      simp only [List.length_append] at hsize
                      have hol : (vs0.drop off).take (len * (esz + 1)) = (vs0.drop off).take (len * (esz + 1)) := rfl
                      -- the row, taken apart
                      have hsplit : pre ++ (vs0 ++ post) = (pre ++ vs0.take (off + len * (esz + 1))) ++ (((vs0.drop (off + len * (esz + 1)) ++ post).take us.length) ++ ((vs0.drop (off + len * (esz + 1)) ++ post).drop us.length)) := by
                        rw [List.take_append_drop, List.append_assoc, ← List.append_assoc (vs0.take _), List.take_append_drop]
                      have hat := cc.at_
                      rw [hsplit] at hat
                      have hpl : (pre ++ vs0.take (off + len * (esz + 1))).length = L.base + off + len * (esz + 1) := by simp; omega
                      have hset := setCells_at L.b e fr us (pre ++ vs0.take (off + len * (esz + 1))) ((vs0.drop (off + len * (esz + 1)) ++ post).take us.length) ((vs0.drop (off + len * (esz + 1)) ++ post).drop us.length) w hat (by simp; omega)
                      rw [hpl] at hset
                      rw [hset] at hrun
                      have htk : vs0.take (off + len * (esz + 1)) = vs0.take off ++ (vs0.drop off).take (len * (esz + 1)) := List.take_add
                      have hrow : (pre ++ vs0.take (off + len * (esz + 1)) ++ (us ++ (vs0.drop (off + len * (esz + 1)) ++ post).drop us.length)) = (pre ++ vs0.take off) ++ (((vs0.drop off).take (len * (esz + 1)) ++ us) ++ (vs0.drop (off + len * (esz + 1)) ++ post).drop us.length) := by
                        rw [htk]; simp only [List.append_assoc]
                      have hW := Wrote.setRow (cs := (pre ++ vs0.take (off + len * (esz + 1)) ++ (us ++ (vs0.drop (off + len * (esz + 1)) ++ post).drop us.length)).toArray) cc.at_
                      have hBR : BR P gl ρ ⟨L.b, L.base + off, L.size⟩ (.cells e (old ++ new) false sg (fz - off)) (.cells (pre ++ vs0.take (off + len * (esz + 1)) ++ (us ++ (vs0.drop (off + len * (esz + 1)) ++ post).drop us.length)).toArray e fr) := by
                        refine ⟨pre ++ vs0.take off, (vs0.drop off).take (len * (esz + 1)) ++ us, _, fr, by rw [hrow], by simp; omega, ?_, (cc.rel.sub ho).append hus, allOne_append q2 hone, fun hh => (by cases hh), ?_⟩
                        · rw [← hrow]
                          simp only [List.length_append, List.length_take, List.length_drop]
                          omega
                        · have := cc.fr_
                          unfold FrOk at this ⊢
                          split
                          · rename_i hsg; rw [if_pos hsg] at this; exact this
                          · rename_i hsg; rw [if_neg hsg] at this; simp only; omega
                      have hmove := h.move (M := ⟨L.b, L.base + off, L.size⟩) hL (by rw [hg]; simp) (nro_cells hg (Nat.le_trans c2 hsub)) rfl hW hBR
                      rw [p5 hca]
                      refine ⟨_, _, _, .sl σ.next 0 _ _ _ _ ⟨L.b, L.base + off, L.size⟩ _ c (by simp [upd]) (Nat.le_refl _) hroom (fun hh => (by cases hh)) (by simpa using p4) (fun _ => rfl), hrun, hmove, Ext.move hL _ _⟩
                    · exact hnew (some a) len c old olds q1 q2 q3 q4 (by omega) rfl c3 sg (fz - off) (σ.kill id) (h.kill id) (Ext.kill σ hL)
                  · cases hl
                · cases hl
        · cases hl
  · cases hl
end Go.Proofs.YtjiaoppefinljaaGreatDoor.Ab

/- Operations that act on memory: copy, clear, maps, iterators, texts out of bytes; two functions without a Go body. -/
namespace Go.Proofs.YtjiaoppefinljaaGreatDoor.Ab
open Go
variable {P : Program} {gl : Nat → Option AV} {F : Nat → Prop} {w0 : World} {ρ : Rho} {σ σ' : St} {w : World} {n : Nat} {ts : Tr AV} {r : Operand → Value}

theorem storeCells_nil (a : Addr) (w : World) : (storeCells a []).run P w = .ok () w := rfl
/-- so many of what is to be copied -/
theorem elems_first (h : HR P gl F w0 ρ σ w) {esz m k : Nat} {v : AV} {new new' : List AV} {u : Value} (hv : VR ρ v u) (he : elems σ esz v = some (m, new)) (hk : k ≤ m) (ht : takeE (k * esz) new = some new') :
    ∃ us, VRs ρ new' us ∧ allOne new' = true ∧ us.length = k * esz ∧ (Builtin.lenOf u).run P w = .ok m w ∧ (Builtin.firstCells esz k u).run P w = .ok us.toArray w := by
  obtain ⟨t1, t2⟩ := takeE_spec _ _ _ ht
  unfold elems at he
  split at he
  · cases he; cases hv
    simp at t2
    subst t2
    obtain rfl : k = 0 := by omega
    exact ⟨[], .nil, rfl, by simp, rfl, rfl⟩
  · rename_i s
    split at he
    · cases he
      cases hv with
      | str _ hlt =>
        have hr1 := bytes_rel (ρ := ρ) s hlt
        simp only [Nat.mul_one] at t1 t2 ⊢
        refine ⟨(s.map fun (c : Nat) => Value.int .u8 (c : Int)).take k, by rw [t2]; exact hr1.take k, allOne_sub (bytes_one s) (fun v hv => by rw [t2] at hv; exact List.mem_of_mem_take hv), by simp; omega, by simp only [Builtin.lenOf, bsN_size]; rfl, ?_⟩
        simp only [Builtin.firstCells]
        have : (bsN s).extract 0 k = bsN (s.take k) := by rw [bsN_extract]; simp
        rw [this, bsN_cells (s.take k) (fun x hx => hlt x (List.mem_of_mem_take hx)), List.map_take]
        rfl
    · cases he
  · rename_i id off len cap ex e
    split at he
    · rename_i hez
      have hez := Nat.eq_of_beq_eq_true hez
      split at he
      · rename_i T l cl sg fz hg
        split at he
        · rename_i q hq
          cases he
          cases hv with
          | sl _ _ _ _ _ _ L a c hL p1 p2 p3 p4 p5 =>
            obtain ⟨pre, vs, post, fr, cc⟩ := h.cells hL hg
            have hs := sub_spec hq
            have hle : k * esz ≤ m * esz := Nat.mul_le_mul_right _ hk
            have hs1 : off + m * esz ≤ l.length := hs.1
            have hq' : sub l off (k * esz) = some new' := by
              rw [t2, hs.2, List.take_take, Nat.min_eq_left (show k * esz ≤ Nat.mul m esz from hle)]
              have hd : ∀ (n : Nat) (l : List AV), n ≤ l.length → dropE n l = some (l.drop n) := by
                intro n
                induction n with
                | zero => intro l _; rfl
                | succ n ih => intro l hl; cases l with
                  | nil => simp at hl
                  | cons a l => exact ih l (by simpa using hl)
              have htk : ∀ (n : Nat) (l : List AV), n ≤ l.length → takeE n l = some (l.take n) := by
                intro n
                induction n with
                | zero => intro l _; cases l <;> rfl
                | succ n ih => intro l hl; cases l with
                  | nil => simp at hl
                  | cons a l => simp only [takeE, ih l (by simpa using hl), List.take_succ_cons]
              unfold sub
              rw [hd off l (by omega)]
              exact htk _ _ (by simp; omega)
            obtain ⟨g1, g2, g3⟩ := cc.load (P := P) hq'
            refine ⟨_, g2, allOne_sub cc.one (fun v hv => ?_), g3, rfl, ?_⟩
            · rw [(sub_spec hq').2] at hv; exact List.mem_of_mem_drop (List.mem_of_mem_take hv)
            · by_cases hc : c = 0
              · have hm0 : k = 0 := by omega
                subst hm0
                obtain rfl : m = 0 := by omega
                rw [firstCells_zero, Nat.zero_mul]
                simp
              · rw [p5 hc]
                exact g1
        · cases he
      · cases he
    · cases he
  · cases he
theorem cpy_sound (h : HR P gl F w0 ρ σ w) {dt st ty e : TypeId} {esz : Nat} {d s v : AV} {ud us : Value} (ht : P.underlying dt = some (.slice e)) (hs : szOf P e = some esz) (hd : VR ρ d ud) (hsv : VR ρ s us) (hl : cpyA esz σ d s = some (v, σ')) :
    Acts P gl F w0 ρ σ w (Builtin.copy_ #[dt, st] ty #[ud, us]) v σ' := by
  unfold cpyA at hl
  split at hl
  · split at hl
    · rename_i y he
      obtain ⟨m, new⟩ := y
      cases hl
      cases hd
      obtain ⟨xs, q1, q2, q3, q4, q5⟩ := elems_first (P := P) h hsv he (Nat.zero_le m) (new' := []) (by rw [Nat.zero_mul]; cases new <;> rfl)
      refine ⟨_, ρ, w, .int _ _, ?_, h, Ext.refl _ _⟩
      simp only [Builtin.copy_, List.getElem?_toArray, List.getElem?_cons_zero, List.getElem?_cons_succ, Sem.run_bind, und_of ht, Result.andThen, q4, szOf_run hs, Nat.min_zero, q5, Sem.run_pure]
      rfl
    · cases hl
  · rename_i id off len cap ex ez
    split at hl
    · cases hl
    · rename_i hez
      have hez := Nat.eq_of_beq_eq_true hez
      subst hez
      split at hl
      · rename_i T l cl sg fz hg
        split at hl
        · rename_i m new he
          split at hl
          · rename_i new' ht'
            split at hl
            · rename_i hfz
              split at hl
              · rename_i l' hl'
                cases hl
                cases hd with
                | sl _ _ _ _ _ _ L a c hL p1 p2 p3 p4 p5 =>
                  obtain ⟨xs, q1, q2, q3, q4, q5⟩ := elems_first (P := P) h hsv he (Nat.min_le_left m len) ht'
                  obtain ⟨g1, g2⟩ := splice_X hl'
                  obtain ⟨pre, vs, post, fr, cc⟩ := h.cells hL hg
                  have hcl := cc.len
                  obtain ⟨w', o', k1, k2, k3, k4⟩ := write_cells (P := P) h hL hg g1 q1 q2 (by rw [nble] at hfz; exact of_decide_eq_true hfz) (by omega)
                  by_cases hc : c = 0
                  · have hlen : len = 0 := by omega
                    subst hlen
                    rw [Nat.min_zero] at q3 q5
                    obtain rfl : xs = [] := List.eq_nil_of_length_eq_zero (by simpa using q3)
                    rw [storeCells_nil] at k1
                    cases k1
                    refine ⟨_, ρ, _, .int _ _, ?_, k4, Ext.set σ hL _⟩
                    simp only [Builtin.copy_, List.getElem?_toArray, List.getElem?_cons_zero, List.getElem?_cons_succ, Sem.run_bind, und_of ht, Result.andThen, q4, szOf_run hs, Nat.min_zero, q5, storeCells_nil, Sem.run_pure]
                    rfl
                  · refine ⟨_, ρ, w', .int _ _, ?_, k4, Ext.set σ hL _⟩
                    rw [p5 hc]
                    simp only [Builtin.copy_, List.getElem?_toArray, List.getElem?_cons_zero, List.getElem?_cons_succ, Sem.run_bind, und_of ht, Result.andThen, q4, szOf_run hs, q5, k1, Sem.run_pure]
                    rfl
              · cases hl
            · cases hl
          · cases hl
        · cases hl
      · cases hl
  · cases hl
theorem clr_sound (h : HR P gl F w0 ρ σ w) {t ty e : TypeId} {esz : Nat} {z : List AV} {v : AV} {u : Value} (ht : P.underlying t = some (.slice e)) (hs : szOf P e = some (esz + 1)) (hz : zeroOf P e = some z) (hv : VR ρ v u) (hl : clrA (esz + 1) z σ v = some σ') :
    Acts P gl F w0 ρ σ w (Builtin.clear_ #[t] ty #[u]) .undef σ' := by
  obtain ⟨i, zv, hi, hzv, hzl, _, hzr⟩ := zeroOf_info (P := P) (ρ := ρ) hz
  have hsz : i.size = esz + 1 := by unfold szOf at hs; rw [hi] at hs; exact Option.some.inj hs
  have hres : VR ρ .undef (.tuple #[]) := .tup [] [] .nil
  unfold clrA at hl
  split at hl
  · cases hl; cases hv
    exact ⟨_, ρ, w, hres, by simp [Builtin.clear_, run_underlying ht], h, Ext.refl _ _⟩
  · rename_i id off len cap ex ez
    split at hl
    · cases hl
    · rename_i hez
      have hez := Nat.eq_of_beq_eq_true hez
      split at hl
      · rename_i T l cl sg fz hg
        split at hl
        · rename_i hfz
          split at hl
          · rename_i l' hl'
            cases hl
            cases hv with
            | sl _ _ _ _ _ _ L a c hL p1 p2 p3 p4 p5 =>
              obtain ⟨g1, g2⟩ := splice_X hl'
              obtain ⟨pre, vs, post, fr, cc⟩ := h.cells hL hg
              have hcl := cc.len
              obtain ⟨w', o', k1, k2, k3, k4⟩ := write_cells (P := P) h hL hg g1 (rep_rel hzr len) (rep_one (zeroOf_one hz) len) (by rw [nble] at hfz; exact of_decide_eq_true hfz) (by omega)
              by_cases hlen : len = 0
              · subst hlen
                rw [show repV zv.cells.toList 0 = [] from rfl, storeCells_nil] at k1
                cases k1
                exact ⟨_, ρ, _, hres, by simp [Builtin.clear_, run_underlying ht], k4, Ext.set σ hL _⟩
              · refine ⟨_, ρ, w', hres, ?_, k4, Ext.set σ hL _⟩
                have hc : c ≠ 0 := by omega
                rw [p5 hc]
                have hzc := zeroCells_eq (esz := esz) (v := zv) (by rw [hzl, hsz]) len
                obtain ⟨len', rfl⟩ : ∃ k, len = k + 1 := ⟨len - 1, by omega⟩
                simp [Builtin.clear_, run_underlying ht, zeroValue, typeInfo, hi, hzv, hzc, k1]
          · cases hl
        · cases hl
      · cases hl
  · cases hl

/-! ### Maps -/
theorem sameBits_self {k a : AV} {uk ua : Value} (h : cellEq k a = some true) (hk : VR ρ k uk) (ha : VR ρ a ua) (d : Nat) : Instr.sameBits d ua uk = true := by
  cases hk with
  | int kk x =>
    cases ha with
    | int k' y =>
      unfold cellEq at h
      simp only [keq_spec] at h
      by_cases e : kk = k'
      · subst e
        simp only [decide_true, ieq_spec, Option.some.injEq, decide_eq_true_eq] at h
        subst h
        cases d <;> simp [Instr.sameBits]
      · simp [e] at h
    | _ => cases h
  | bool x =>
    cases ha with
    | bool y =>
      have : x = y := by simpa [cellEq] using h
      subst this
      cases d <;> simp [Instr.sameBits]
    | _ => cases h
  | str x hx =>
    cases ha with
    | str y hy =>
      have : leqL x y = true := by simpa [cellEq] using h
      rw [leqL_spec] at this
      have := of_decide_eq_true this
      subst this
      cases d <;> simp [Instr.sameBits, ba_beq]
    | _ => cases h
  | _ => cases h
theorem mupE_sound {k v : AV} {uk uv : Value} (hk : VR ρ k uk) (hv : VR ρ v uv) {t : TypeId} {td : TypeDesc} (hu : P.underlying t = some td) (ht : kOf P t = some (kindA k)) : ∀ {es : List (AV × AV × Nat)} {ents : List MapEntry} {q : Option (List (AV × AV × Nat))}, mupE k v es = some q → ER ρ es ents → ∀ i,
    match q with
    | none => Instr.findNow td uk ents i = some none
    | some es' => ∃ j u e, Instr.findNow td uk ents i = some (some (i + j, u)) ∧ ents[j]? = some e ∧ Instr.sameBits 10000 e.key uk = true ∧ ER ρ es' (ents.modify j fun e => { e with key := uk, val := uv })
  | [], [], q, h, _, i => by cases h; rfl
  | (a, u, b) :: es, e :: ents, q, h, hr, i => by
    unfold mupE at h
    obtain ⟨h1, h2, h3, h4⟩ := hr
    split at h
    · rename_i hc
      cases h
      have hn := sameNow_sound hc hk h1 hu ht
      refine ⟨0, e.val, e, by simp only [Instr.findNow, hn]; rfl, rfl, sameBits_self hc hk h1 _, ?_⟩
      simp only [List.modify_zero_cons]
      exact ⟨hk, hv, h3, h4⟩
    · rename_i hc
      have hn := sameNow_sound hc hk h1 hu ht
      split at h
      · rename_i r' hr'
        cases h
        obtain ⟨j, u', e', g1, g2, g3, g4⟩ := mupE_sound hk hv hu ht hr' h4 (i + 1)
        refine ⟨j + 1, u', e', ?_, by simpa using g2, g3, ?_⟩
        · simp only [Instr.findNow, hn]; rw [g1]; congr 3; omega
        · simp only [List.modify_succ_cons]
          exact ⟨h1, h2, h3, g4⟩
      · rename_i hr'
        cases h
        have := mupE_sound hk hv hu ht hr' h4 (i + 1)
        simp only [Instr.findNow, hn]
        exact this
      · cases h
    · cases h
  | [], _ :: _, _, _, hr, _ => hr.elim
  | (_, _, _) :: _, [], _, _, hr, _ => hr.elim
theorem ER.append : ∀ {es : List (AV × AV × Nat)} {ents : List MapEntry} {k v : AV} {e : MapEntry}, ER ρ es ents → VR ρ k e.key → VR ρ v e.val → ER ρ (es ++ [(k, v, e.born)]) (ents ++ [e])
  | [], [], _, _, _, _, h1, h2 => ⟨h1, h2, rfl, trivial⟩
  | (_, _, _) :: _, _ :: _, _, _, _, h, h1, h2 => ⟨h.1, h.2.1, h.2.2.1, ER.append h.2.2.2 h1 h2⟩
  | [], _ :: _, _, _, _, h, _, _ => h.elim
  | (_, _, _) :: _, [], _, _, _, h, _, _ => h.elim
theorem run_setObj {b : Nat} {o o' : Obj} (h : w.heap[b]? = some o) (hn : ∀ c e f, o ≠ .cells c e f) : (setObj b o').run P w = .ok () { w with heap := w.heap.setIfInBounds b o' } := by
  cases o with
  | cells c e f => exact absurd rfl (hn c e f)
  | _ => simp [setObj, Sem.run, h]
theorem heap_lt {b : Nat} {o : Obj} (h : w.heap[b]? = some o) : b < w.heap.size := (Array.getElem?_eq_some_iff.1 h).1
section
variable (hr : OR ρ n ts r) (h : HR P gl F w0 ρ σ w)
include hr h
theorem mup_sound {t kt e : TypeId} {kk : Nat} {m k v : Operand} {m' k' v' : X} {o : Oper} (ho : o.op = .mapUpdate t m k v) (hm : cX n m = some m') (hk : cX n k = some k') (hv : cX n v = some v') (hu : P.underlying t = some (.map kt e)) (hkk : kOf P kt = some kk)
    (hl : mupA kk σ (m'.ev ts) (k'.ev ts) (v'.ev ts) = some σ') : ∃ w', (execOp r o).run P w = .ok .skip w' ∧ HR P gl F w0 ρ σ' w' ∧ Ext ρ σ ρ σ' := by
  have hvm := hr _ _ hm
  have hvk := hr _ _ hk
  have hvv := hr _ _ hv
  unfold mupA at hl
  split at hl
  · rename_i id ex
    rw [ex] at hvm
    split at hl
    · rename_i es clk hg
      generalize he : r m = rm at hvm
      cases hvm with
      | map _ L hL =>
        obtain ⟨ob, hob, ents, rfl, her⟩ := h.blk id L _ hL hg
        have hgo := run_getObj (P := P) hob (fun c e f => (by simp))
        obtain ⟨td, hkt⟩ : ∃ td, P.underlying kt = some td := by
          unfold kOf at hkk
          cases hx : P.underlying kt with
          | none => rw [hx] at hkk; cases hkk
          | some td => exact ⟨td, rfl⟩
        rw [nbeq] at hl
        by_cases hkd : kindA (k'.ev ts) = kk
        · rw [decide_eq_true hkd] at hl
          simp only [] at hl
          have hck := fun em => run_checkKey (P := P) hkk em 9999 (r k) w
          have hnine : (10000 : Nat) = 9999 + 1 := rfl
          have hlt := heap_lt hob
          have hso := fun o' => run_setObj (P := P) (o' := o') hob (fun c e f => (by simp))
          split at hl
          · rename_i es' hf
            cases hl
            obtain ⟨j, u, e0, g1, g2, g3, g4⟩ := mupE_sound (P := P) hvk hvv hkt (by rw [hkk, hkd]) hf her 0
            have hW := Wrote.setObj (w := w) (o := .map (ents.modify j fun e => { e with key := r k, val := r v }).toArray clk) hlt
            refine ⟨_, ?_, h.write hL (by rw [hg]; simp) (nro_other hg (by simp)) hW ⟨_, rfl, g4⟩, Ext.set σ hL _⟩
            have hks : (Instr.keyThatStays e0.key (r k)).run P w = .ok (r k) w := by
              unfold Instr.keyThatStays
              rw [if_pos g3]; rfl
            have hmd : (ents.toArray.modify j fun e => { e with key := r k, val := r v }) = (ents.modify j fun e => { e with key := r k, val := r v }).toArray := by
              apply Array.toList_inj.1; simp
            simp only [Nat.zero_add] at g1
            simp only [execOp, ho, he]
            simp only [Instr.mapUpdate, Sem.run_bind, und_of hu, Result.andThen, hgo, hnine, hck, Instr.findKey, und_of hkt, g1, Sem.run_pure, List.getElem?_toArray, g2, Option.map_some, Option.getD_some, hks, hmd, hso]
          · rename_i hf
            cases hl
            have g1 := mupE_sound (P := P) hvk hvv hkt (by rw [hkk, hkd]) hf her 0
            simp only [] at g1
            have hW := Wrote.setObj (w := w) (o := .map (ents ++ [({ key := r k, val := r v, born := clk } : MapEntry)]).toArray (clk + 1)) hlt
            refine ⟨_, ?_, h.write (B' := .map (es ++ [(k'.ev ts, v'.ev ts, clk)]) (clk + 1)) hL (by rw [hg]; simp) (nro_other hg (by simp)) hW ⟨_, rfl, ER.append (e := ({ key := r k, val := r v, born := clk } : MapEntry)) her hvk hvv⟩, Ext.set σ hL _⟩
            have hps : (ents.toArray.push ({ key := r k, val := r v, born := clk } : MapEntry)) = (ents ++ [({ key := r k, val := r v, born := clk } : MapEntry)]).toArray := by
              apply Array.toList_inj.1; simp
            simp only [execOp, ho, he]
            simp only [Instr.mapUpdate, Sem.run_bind, und_of hu, Result.andThen, hgo, hnine, hck, Instr.findKey, und_of hkt, g1, Sem.run_pure, hps, hso]
          · cases hl
        · rw [decide_eq_false hkd] at hl; cases hl
    · cases hl
  · cases hl
theorem nxt_sound {x : Operand} {x' : X} {v : AV} {o : Oper} (ho : o.op = .next x true) (hx : cX n x = some x') (hl : nxtA σ (x'.ev ts) = some (v, σ')) :
    ∃ u w', VR ρ v u ∧ (execOp r o).run P w = .ok (.value u) w' ∧ HR P gl F w0 ρ σ' w' ∧ Ext ρ σ ρ σ' := by
  have hvx := hr _ _ hx
  unfold nxtA at hl
  split at hl
  · rename_i id ex
    rw [ex] at hvx
    split at hl
    · rename_i s pos hg
      generalize he : r x = rx at hvx
      cases hvx with
      | ptr _ _ L hL =>
        obtain ⟨ob, hob, rfl, hs, hb0⟩ := h.blk id L _ hL hg
        have hgo := run_getObj (P := P) hob (fun c e f => (by simp))
        have hlt := heap_lt hob
        have hso := fun o' => run_setObj (P := P) (o' := o') hob (fun c e f => (by simp))
        split at hl
        · rename_i c hc
          rw [nblt] at hl
          by_cases hc8 : c < 128
          · rw [decide_eq_true hc8] at hl
            cases hl
            have hcg := nthN_spec _ _ _ hc
            obtain ⟨hps, hcv⟩ := List.getElem?_eq_some_iff.1 hcg
            have hdec : Utf8.decode (bsN s) pos = (c, 1) := by
              obtain ⟨hb1, hb2⟩ := bsN_get hc hs
              have hp1 : pos < (bsN s).size := by rw [bsN_size]; exact hps
              rw [getElem?_pos (bsN s) pos hp1] at hb1
              have hp2 := Option.some.inj hb1
              have hget : ((bsN s).get! (pos + 0)).toNat = c := by
                rw [Nat.add_zero, show (bsN s).get! pos = (bsN s)[pos] from ?_, hp2, hb2]
                show (bsN s).data[pos]! = (bsN s).data[pos]
                exact getElem!_pos (bsN s).data pos hp1
              unfold Utf8.decode
              simp only [hget]
              rw [if_pos hc8]
            have hW := Wrote.setObj (w := w) (o := .stringIter (bsN s) (pos + 1)) hlt
            refine ⟨.tuple #[.bool true, .int .i64 pos, .int .i32 c], _, ?_, ?_, h.write (B' := .stit s (pos + 1)) hL (by rw [hg]; simp) (nro_other hg (by simp)) hW ⟨rfl, hs, hb0⟩, Ext.set σ hL _⟩
            · exact .tup _ _ (.cons _ _ _ _ (.bool _) (.cons _ _ _ _ (.int _ _) (.cons _ _ _ _ (.int _ _) .nil)))
            · simp only [execOp, ho, he, hb0, Nat.zero_add]
              refine lift ?_
              have hpz : pos < (bsN s).size := by rw [bsN_size]; exact hps
              simp only [Instr.next, Sem.run_bind, hgo, Result.andThen, hpz, if_true, hdec, hso, Sem.run_pure]
              rfl
          · rw [decide_eq_false hc8] at hl; cases hl
        · rename_i hc
          cases hl
          refine ⟨.tuple #[.bool false], w, .tup _ _ (.cons _ _ _ _ (.bool _) .nil), ?_, h, Ext.refl _ _⟩
          simp only [execOp, ho, he, hb0, Nat.zero_add]
          refine lift ?_
          have hpz : ¬ (pos < (bsN s).size) := by
            rw [bsN_size]
            intro hlt'
            have : ∀ (s : List Nat) (i : Nat), i < s.length → nthN s i ≠ none := by
              intro s
              induction s with
              | nil => intro i hi; simp at hi
              | cons a s ih => intro i hi; cases i with
                | zero => simp [nthN]
                | succ i => simpa [nthN] using ih i (by simpa using hi)
            exact this s pos hlt' hc
          simp only [Instr.next, Sem.run_bind, hgo, Result.andThen, hpz, if_false, Sem.run_pure]
    · cases hl
  · cases hl
end
end Go.Proofs.YtjiaoppefinljaaGreatDoor.Ab

/- Texts out of bytes without a copy; two functions without a Go body; operations that act and call nothing. -/
namespace Go.Proofs.YtjiaoppefinljaaGreatDoor.Ab
open Go
variable {P : Program} {gl : Nat → Option AV} {F : Nat → Prop} {w0 : World} {ρ : Rho} {σ σ' : St} {w : World} {n : Nat} {ts : Tr AV} {r : Operand → Value}

theorem isByte_cells {e : TypeId} (h : isByte P e = true) : P.cellsOf e = 1 ∧ P.underlying e = some (.int .u8) := by
  unfold isByte at h
  split at h
  · rename_i hu
    split at h
    · rename_i hs
      unfold szOf at hs
      split at hs
      · rename_i i hi
        exact ⟨by simp [Program.cellsOf, hi, Option.some.inj hs], hu⟩
      · cases hs
    · cases h
  · cases h
theorem run_loadBytes_ints : ∀ (ns : List Int) (a : Addr) (acc : ByteArray), (∀ j m, ns[j]? = some m → w.cell? (a.add j) = some (.int .u8 m)) →
    (Go.loadBytes a acc ns.length).run P w = .ok (ns.foldl (fun b n => b.push (UInt8.ofNat n.toNat)) acc) w
  | [], a, acc, _ => by simp [Go.loadBytes]
  | x :: l, a, acc, h => by
    have h0 : w.cell? a = some (.int .u8 x) := by
      have := h 0 x rfl
      simpa [Addr.add] using this
    have ih := run_loadBytes_ints l (a.add 1) (acc.push (UInt8.ofNat x.toNat)) (fun j y hy => by
      have := h (j + 1) y (by simpa using hy)
      have e : (a.add 1).add j = a.add (j + 1) := by
        unfold Addr.add
        by_cases hj : j = 0
        · subst hj; simp
        · simp [hj]; omega
      rw [e]; exact this)
    have hx : (x.toNat).toUInt8 = UInt8.ofNat x.toNat := rfl
    simp only [List.length_cons, Go.loadBytes, Sem.run_bind, run_load, h0, Result.andThen, hx, List.foldl_cons]
    exact ih
theorem liesAt_off {e : TypeId} (hc : P.cellsOf e = 1) (count off n : Nat) (hn : off + n ≤ count) : liesAt P P.depth e count off e n = true := by
  have hd : P.depth = (2 * (P.types.size + Made.depth) + 1) + 1 := rfl
  rw [hd]
  simp only [liesAt, Bool.or_eq_true]
  left
  rw [hd]
  simp [rowAt, hc, hn, sameLayout, Nat.mod_one]
theorem run_ust_none (k : IntKind) (pt it ty : TypeId) (p : Option Addr) (w : World) : (Builtin.unsafeString_ #[pt, it] ty #[.pointer p, .int k 0]).run P w = .ok (.string .empty) w := by
  have hmax : IntKind.i64.max = 9223372036854775807 := rfl
  cases p with
  | none =>
    have hdef : Builtin.unsafeString_ #[pt, it] ty #[.pointer none, .int k 0] =
        (do
          let n ← asInt (.int k 0)
          if n < 0 then runtimePanic (.error "unsafe.String: len out of range")
          if n > IntKind.i64.max then unsupported (.unsafePointer "String: a length above the largest int")
          if n = 0 then pure (.string .empty)
          else runtimePanic (.error "unsafe.String: ptr is nil and len is not zero")) := rfl
    rw [hdef]
    simp [asInt, asIntOf, hmax]
  | some a =>
    have hdef : Builtin.unsafeString_ #[pt, it] ty #[.pointer (some a), .int k 0] =
        (do
          let n ← asInt (.int k 0)
          if n < 0 then runtimePanic (.error "unsafe.String: len out of range")
          if n > IntKind.i64.max then unsupported (.unsafePointer "String: a length above the largest int")
          if n = 0 then pure (.string .empty)
          else if ← variablesAt a (← elemOf pt) n.toNat then do
            let s ← Go.loadBytes a .empty n.toNat
            freeze a n.toNat
            pure (.string s)
          else unsupported (.unsafePointer "String: not so many bytes at ptr")) := rfl
    rw [hdef]
    simp [asInt, asIntOf, hmax]
theorem ust_sound (h : HR P gl F w0 ρ σ w) {t u ty T : TypeId} {p m v : AV} {up um : Value} (ht : P.underlying t = some (.pointer T)) (hb : isByte P T = true) (hp : VR ρ p up) (hm : VR ρ m um) (hl : ustA T σ p m = some (v, σ')) :
    Acts P gl F w0 ρ σ w (Builtin.unsafeString_ #[t, u] ty #[up, um]) v σ' := by
  obtain ⟨hc1, hc2⟩ := isByte_cells hb
  unfold ustA at hl
  split at hl
  · rename_i ha
    obtain ⟨k, rfl⟩ : ∃ k, m = .int k 0 := by
      unfold asNat at ha
      split at ha
      · cases ha; exact ⟨_, rfl⟩
      · cases ha
    cases hm
    split at hl
    · cases hl; cases hp
      exact ⟨_, ρ, w, .str [] (fun x hx => (by cases hx)), run_ust_none k t u ty _ w, h, Ext.refl _ _⟩
    · cases hl; cases hp
      exact ⟨_, ρ, w, .str [] (fun x hx => (by cases hx)), run_ust_none k t u ty _ w, h, Ext.refl _ _⟩
    · cases hl
  · rename_i q ha
    obtain ⟨k, rfl⟩ : ∃ k, m = .int k (.ofNat (q + 1)) := by
      unfold asNat at ha
      split at ha
      · cases ha; exact ⟨_, rfl⟩
      · cases ha
    cases hm
    split at hl
    · rename_i id off
      split at hl
      · rename_i T' l cl fz hg
        split at hl
        · rename_i hTT hlt hfl
          rw [nble] at hfl
          have hfl := of_decide_eq_true hfl
          have hTT := Nat.eq_of_beq_eq_true hTT
          subst hTT
          rw [nblt] at hlt
          have hlt := of_decide_eq_true hlt
          split at hl
          · rename_i rr hrr
            split at hl
            · rename_i s hs
              cases hl
              cases hp with
              | ptr _ _ L hL =>
                obtain ⟨pre, vs, post, fr, cc⟩ := h.cells hL hg
                obtain ⟨g1, g2, g3⟩ := cc.load (P := P) hrr
                obtain ⟨k1, ns, k2, k3⟩ := textOf_sound hs g2
                have hnl : ns.length = q + 1 := by rw [← g3, k2]; simp
                have hq := (sub_spec hrr).1
                have hvl := cc.rel.len
                have hlen := cc.len
                have hlb := run_loadBytes_ints (P := P) (w := w) ns ⟨L.b, L.base + off, none⟩ .empty (fun j x hj => by
                  rw [addr_add, Nat.add_assoc]
                  refine cc.cell ?_
                  have h1 : (ns.map (Value.int .u8))[j]? = some (.int .u8 x) := by rw [List.getElem?_map, hj]; rfl
                  rw [← k2, List.getElem?_take] at h1
                  split at h1
                  · rw [List.getElem?_drop] at h1; exact h1
                  · cases h1)
                have hk3 := k3 []
                rw [show bsN [] = ByteArray.empty from rfl, List.nil_append] at hk3
                rw [hnl, hk3] at hlb
                have hlies := liesAt_off (P := P) hc1 (L.size / P.cellsOf T) (L.base + off) (q + 1) (by rw [hc1]; simp; omega)
                obtain ⟨lo, hi⟩ := fr
                have hfr := cc.fr_
                unfold FrOk at hfr
                simp only [Bool.false_eq_true, if_false] at hfr
                have hheap := cc.at_
                have hblt := heap_lt hheap
                generalize hfr' : (if (lo == hi) = true then (L.base + off, L.base + off + (q + 1)) else (min lo (L.base + off), max hi (L.base + off + (q + 1)))) = fr'
                have hfb : fr'.2 ≤ L.base + Nat.max fz (off + (q + 1)) := by
                  have e : Nat.max fz (off + (q + 1)) = max fz (off + (q + 1)) := rfl
                  rw [← hfr', e]
                  split <;> simp only <;> omega
                have hW : Wrote w (w.freeze ⟨L.b, L.base + off, none⟩ (q + 1)) L.b (.cells (pre ++ (vs ++ post)).toArray T fr') := by
                  unfold World.freeze
                  rw [if_neg (by omega)]
                  refine ⟨rfl, rfl, rfl, by simp, ?_, fun k hk => ?_⟩
                  · simp only [Array.getElem?_modify, if_pos, hheap, Option.map_some, hfr']
                  · simp only [Array.getElem?_modify, if_neg (Ne.symm hk)]
                refine ⟨_, ρ, _, .str _ k1, ?_, h.write (B' := .cells T l cl false (Nat.max fz (Nat.add off (q + 1)))) hL (by rw [hg]; simp) (nro_cells hg hfl) hW ⟨pre, vs, post, fr', rfl, cc.base, cc.size, cc.rel, cc.one, cc.cl_, ?_⟩, Ext.set σ hL _⟩
                · have hmax : IntKind.i64.max = 9223372036854775807 := rfl
                  have e1 : ¬ ((Int.ofNat (q + 1)) < 0) := by simp only [Int.ofNat_eq_natCast]; omega
                  have e2 : ¬ (9223372036854775807 < Int.ofNat (q + 1)) := by simp only [Int.ofNat_eq_natCast]; omega
                  have e3 : ¬ (Int.ofNat (q + 1) = 0) := by simp only [Int.ofNat_eq_natCast]; omega
                  have e4 : (Int.ofNat (q + 1)).toNat = q + 1 := rfl
                  have hdef : Builtin.unsafeString_ #[t, u] ty #[.pointer (some ⟨L.b, L.base + off, none⟩), .int k (Int.ofNat (q + 1))] =
                      (do
                        let n ← asInt (.int k (Int.ofNat (q + 1)))
                        if n < 0 then runtimePanic (.error "unsafe.String: len out of range")
                        if n > IntKind.i64.max then unsupported (.unsafePointer "String: a length above the largest int")
                        if n = 0 then pure (.string .empty)
                        else if ← variablesAt ⟨L.b, L.base + off, none⟩ (← elemOf t) n.toNat then do
                          let s ← Go.loadBytes ⟨L.b, L.base + off, none⟩ .empty n.toNat
                          freeze ⟨L.b, L.base + off, none⟩ n.toNat
                          pure (.string s)
                        else unsupported (.unsafePointer "String: not so many bytes at ptr")) := rfl
                  rw [hdef]
                  have hsh := cc.shape
                  simp only [asInt, asIntOf, hmax, e1, e2, e3, e4, gt_iff_lt, if_false, Sem.run_bind, Sem.run_pure, Result.andThen, variablesAt, run_shape, hsh, elemOf, run_underlying ht, hlies, hlb, run_freeze, if_true, run_program]
                · unfold FrOk
                  simp only [Bool.false_eq_true, if_false]
                  exact hfb
            · cases hl
          · cases hl
        · cases hl
      · cases hl
    · cases hl
  · cases hl

/-! ### Functions without a body -/
theorem addI_sound (h : HR P gl F w0 ρ σ w) {args : List AV} {us : List Value} {v : AV} (ha : VRs ρ args us) (hl : addIA σ args = some (v, σ')) :
    Acts P gl F w0 ρ σ w (Extern.Atomic.update (Op.intArith .add) .i64 true us.toArray) v σ' := by
  unfold addIA at hl
  split at hl
  · rename_i id off y
    cases ha with
    | cons _ _ _ _ h1 h2 =>
      cases h2 with
      | cons _ _ _ _ h2 h3 =>
        cases h3
        cases h2
        split at hl
        · rename_i T l cl sg fz hg
          split at hl
          · rename_i x hx
            split at hl
            · rename_i hfz
              rw [nble] at hfz
              have hfz := of_decide_eq_true hfz
              split at hl
              · rename_i l' hl'
                cases hl
                cases h1 with
                | ptr _ _ L hL =>
                  obtain ⟨g1, g2⟩ := splice_X hl'
                  obtain ⟨pre, vs, post, fr, cc⟩ := h.cells hL hg
                  have hcl := cc.len
                  have g2 : off + 1 ≤ l.length := g2
                  have hnew : VRs ρ [.int .i64 (wr .i64 (x + y))] [.int .i64 (wr .i64 (x + y))] := .cons _ _ _ _ (.int _ _) .nil
                  obtain ⟨w', o', k1, k2, k3, k4⟩ := write_cells (P := P) h hL hg g1 hnew rfl hfz (by simp only [List.length_singleton]; omega)
                  have hst := run_storeCells_cells (P := P) L.b (L.base + off) [.int .i64 (wr .i64 (x + y))] 0 w (fun j hj => by
                      obtain ⟨v, hv⟩ := cc.some (o := L.base + off + 0 + j) (by simp at hj; omega)
                      rw [hv]; rfl) (fun j hj => cc.free (by omega) (by simp at hj; omega)) (by simp [Value.oneCell'])
                  simp only [Nat.add_zero] at hst
                  rw [hst] at k1
                  cases k1
                  refine ⟨_, ρ, _, .int _ _, ?_, k4, Ext.set σ hL _⟩
                  obtain ⟨ux, hux, hur⟩ := cc.rel.nth hx
                  cases hur
                  have := Conc.run_add_entry (P := P) (w := w) (ad := ⟨L.b, L.base + off, none⟩) (k := .i64) (v := x) (d := y) (cc.cell hux) (cc.free (by omega) (by omega))
                  rw [this, wr_spec]
                  rfl
              · cases hl
            · cases hl
          · cases hl
        · cases hl
  · cases hl
theorem noZ_sound (h : HR P gl F w0 ρ σ w) {ps : Array TypeId} {t T : TypeId} {args : List AV} {us : List Value} {v : AV} (ht : P.underlying t = some (.slice T)) (ha : VRs ρ args us) (hl : noZA T σ args = some (v, σ')) :
    Acts P gl F w0 ρ σ w (Extern.BytealgMakeNoZero.makeNoZero ps #[t] us.toArray) v σ' := by
  unfold noZA at hl
  split at hl
  · rename_i n
    split at hl
    · rename_i hn
      rw [nblt] at hn
      have hn := of_decide_eq_true hn
      cases hl
      cases ha with
      | cons _ _ _ _ h1 h2 =>
        cases h2
        cases h1
        obtain ⟨cs, hrun, h2, h3⟩ := Lib.run_makeNoZero (P := P) w ps t T ht n (by omega)
        have hBR : BR P gl ρ ⟨w.heap.size, 0, cs.size⟩ (.cells T [] false false 0) (.cells cs T (0, 0)) :=
          ⟨[], [], cs.toList, (0, 0), by simp, rfl, by simp, .nil, rfl, fun hh => (by cases hh), by unfold FrOk; simp⟩
        have hmake := ((h.drew (w.drawn + 1)).drew (w.drawn + 1 + 1)).make (.cells T [] false false 0) _ cs.size hBR
        refine ⟨_, _, _, .sl σ.next 0 _ _ _ _ ⟨w.heap.size, 0, cs.size⟩ _ _ (by simp [upd]) (Nat.le_refl _) h2 (fun hh => (by cases hh)) (by simp) (fun _ => rfl), hrun, hmake, Ext.make ρ σ _ _⟩
    · cases hl
  · cases hl

/-! ### Operations that act, but for calls -/
/-- what such an operation comes to -/
def Does (P : Program) (gl : Nat → Option AV) (F : Nat → Prop) (w0 : World) (ρ : Rho) (σ : St) (w : World) (s : Sem Next) (v : AV) (σ' : St) : Prop :=
  ∃ ρ' w', HR P gl F w0 ρ' σ' w' ∧ Ext ρ σ ρ' σ' ∧ ((∃ u, VR ρ' v u ∧ s.run P w = .ok (.value u) w') ∨ (v = .undef ∧ s.run P w = .ok .skip w'))
theorem Acts.does {s : Sem Value} {v : AV} (h : Acts P gl F w0 ρ σ w s v σ') : Does P gl F w0 ρ σ w (do pure (Next.value (← s))) v σ' := by
  obtain ⟨u, ρ', w', h1, h2, h3, h4⟩ := h
  exact ⟨ρ', w', h3, h4, .inl ⟨u, h1, lift h2⟩⟩
def plainE : EI → Bool
  | .call _ _ => false
  | .inv _ _ _ => false
  | .dfr _ _ => false
  | _ => true
theorem lift' {s : Sem Value} {q : Sem Next} (hq : ∀ w : World, q.run P w = ((do pure (Next.value (← s))) : Sem Next).run P w) {v : AV} (h : Acts P gl F w0 ρ σ w s v σ') : Does P gl F w0 ρ σ w q v σ' := by
  obtain ⟨ρ', w', h1, h2, h3⟩ := h.does
  refine ⟨ρ', w', h1, h2, ?_⟩
  rw [hq]; exact h3
theorem zeros_spec {bytes m : Nat} {z new : List AV} {v : AV} (h : zeros bytes z v = some (m, new)) : (∃ k, v = .int k (.ofNat m)) ∧ m ≠ 0 ∧ m < 1048576 ∧ m * (bytes + 1) < 281474976710656 ∧ new = rep z m := by
  unfold zeros at h
  split at h
  · rename_i n hn
    split at h
    · rename_i hc
      cases h
      simp only [Bool.and_eq_true, nblt, decide_eq_true_eq] at hc
      refine ⟨?_, by omega, hc.1, hc.2, rfl⟩
      unfold asNat at hn
      split at hn
      · cases hn; exact ⟨_, rfl⟩
      · cases hn
    · cases h
  · cases h
theorem builtin_acts (h : HR P gl F w0 ρ σ w) {E : Env} {ex : ExT} {b : Builtin} {ats : List TypeId} {xs : List X} {us : List Value} {i : EI} {k : AV → St → Bool} {cst : Array Bool} {ty : TypeId} (hc : cBuiltin P n b ats xs = some (.e i)) (hx : VRs ρ (evs ts xs) us)
    (hk : evE E ex i ts σ k = true) : ∃ v σ', k v σ' = true ∧ Does P gl F w0 ρ σ w (builtin b ats.toArray ty cst us.toArray) v σ' := by
  unfold cBuiltin at hc
  split at hc
  · repeat' (split at hc)
    all_goals cases hc
  · repeat' (split at hc)
    all_goals cases hc
  · cases hc
  · cases hc
  · cases hc
  · -- append
    rename_i t u s x
    cases hx with
    | cons _ _ _ _ hs hx =>
    cases hx with
    | cons _ _ _ _ hx hn =>
    cases hn
    split at hc
    · rename_i e ud ht hu
      split at hc
      · rename_i esz by_ z he hb hz
        have hsrc : ∀ (m : Nat) (new : List AV), elems σ (esz + 1) (x.ev ts) = some (m, new) → ((∃ e', P.underlying u = some (.slice e')) ∨ P.underlying u = some .string) → ∀ {v : AV} {σ' : St}, appA e (esz + 1) by_ σ (s.ev ts) m new = some (v, σ') → ∀ (q : Value),
            VR ρ (x.ev ts) q → ∀ (p : Value), VR ρ (s.ev ts) p → Acts P gl F w0 ρ σ w (Builtin.append_ #[t, u] ty #[p, q]) v σ' := fun m new hm hk v σ' ha q hq p hp => by
          obtain ⟨vs, q1, q2, q3, q4, q5⟩ := elems_src (P := P) h hq hm
          exact app_sound h ht he hz (adds_src he hb hz hk q4 q5 q3 (q1.one q2)) q1 q2 q3 hp ha
        split at hc
        · rename_i kd
          cases hc
          simp only [evE] at hk
          split at hk
          · rename_i m new hm
            split at hk
            · rename_i v σ' ha
              obtain ⟨⟨kk, ek⟩, z0, z1, z2, z3⟩ := zeros_spec hm
              subst z3
              rw [ek] at hx
              cases hx
              refine ⟨v, σ', hk, Acts.does ?_⟩
              have hone := zeroOf_one hz
              obtain ⟨zs, y1, y2, y3⟩ := adds_zero (ρ := ρ) (w := w) (kk := kk) he hb hz hu z0 z1 z2 hone
              exact app_sound h ht he hz y3 (rep_rel y1 m) (rep_one hone m) (by rw [repV_len, y2]) hs ha
            · cases hk
          · cases hk
        · rename_i e'
          cases hc
          simp only [evE] at hk
          split at hk
          · rename_i m new hm
            split at hk
            · rename_i v σ' ha
              exact ⟨v, σ', hk, Acts.does (hsrc m new hm (.inl ⟨_, hu⟩) ha _ hx _ hs)⟩
            · cases hk
          · cases hk
        · cases hc
          simp only [evE] at hk
          split at hk
          · rename_i m new hm
            split at hk
            · rename_i v σ' ha
              exact ⟨v, σ', hk, Acts.does (hsrc m new hm (.inr hu) ha _ hx _ hs)⟩
            · cases hk
          · cases hk
        · cases hc
      · cases hc
    · cases hc
  · -- copy
    rename_i t u d s
    cases hx with
    | cons _ _ _ _ hd hx =>
    cases hx with
    | cons _ _ _ _ hs hn =>
    cases hn
    split at hc
    · rename_i e ht
      split at hc
      · rename_i esz he
        cases hc
        simp only [evE] at hk
        split at hk
        · rename_i v σ' ha
          exact ⟨v, σ', hk, Acts.does (cpy_sound h ht he hd hs ha)⟩
        · cases hk
      · cases hc
    · cases hc
  · -- clear
    rename_i t x
    cases hx with
    | cons _ _ _ _ hx hn =>
    cases hn
    split at hc
    · rename_i e ht
      split at hc
      · rename_i esz z he hz
        cases hc
        simp only [evE] at hk
        split at hk
        · rename_i σ' ha
          exact ⟨.undef, σ', hk, Acts.does (clr_sound h ht he hz hx ha)⟩
        · cases hk
      · cases hc
    · cases hc
  · -- text out of bytes
    rename_i t u x m
    cases hx with
    | cons _ _ _ _ hx hm =>
    cases hm with
    | cons _ _ _ _ hm hn =>
    cases hn
    split at hc
    · rename_i e ht
      split at hc
      · rename_i hb
        cases hc
        simp only [evE] at hk
        split at hk
        · rename_i v σ' ha
          exact ⟨v, σ', hk, Acts.does (ust_sound h ht hb hx hm ha)⟩
        · cases hk
      · cases hc
    · cases hc
  · cases hc
theorem evE_sound (hr : OR ρ n ts r) (h : HR P gl F w0 ρ σ w) {E : Env} {ex : ExT} {o : Oper} {i : EI} {k : AV → St → Bool} (hc : cOp P gl n o = some (.e i)) (hp : plainE i = true)
    (hk : evE E ex i ts σ k = true) : ∃ v σ', k v σ' = true ∧ Does P gl F w0 ρ σ w (execOp r o) v σ' := by
  unfold cOp at hc
  split at hc
  · repeat' (split at hc)
    all_goals cases hc
  · repeat' (split at hc)
    all_goals cases hc
  · repeat' (split at hc)
    all_goals cases hc
  · repeat' (split at hc)
    all_goals cases hc
  · repeat' (split at hc)
    all_goals cases hc
  · unfold cBuild at hc
    repeat' (split at hc)
    all_goals cases hc
  · repeat' (split at hc)
    all_goals cases hc
  · repeat' (split at hc)
    all_goals cases hc
  · rename_i t x v ho
    split at hc
    · rename_i x' v' s hx hv hs
      cases hc
      simp only [evE] at hk
      split at hk
      · rename_i σ' hs'
        obtain ⟨w', q1, q2, q3⟩ := sto_sound hr h ho hx hv hs hs'
        exact ⟨.undef, σ', hk, ρ, w', q2, q3, .inr ⟨rfl, q1⟩⟩
      · cases hk
    · cases hc
  · repeat' (split at hc)
    all_goals cases hc
  · repeat' (split at hc)
    all_goals cases hc
  · repeat' (split at hc)
    all_goals cases hc
  · rename_i s d x ho
    split at hc
    · unfold cConv at hc
      repeat' (split at hc)
      all_goals cases hc
    · cases hc
  · repeat' (split at hc)
    all_goals cases hc
  · repeat' (split at hc)
    all_goals cases hc
  · repeat' (split at hc)
    all_goals cases hc
  · repeat' (split at hc)
    all_goals cases hc
  · repeat' (split at hc)
    all_goals cases hc
  · repeat' (split at hc)
    all_goals cases hc
  · repeat' (split at hc)
    all_goals cases hc
  · repeat' (split at hc)
    all_goals cases hc
  · repeat' (split at hc)
    all_goals cases hc
  · repeat' (split at hc)
    all_goals cases hc
  · rename_i t m k v ho
    split at hc
    · rename_i m' k' v' kt e hm hkk hv hu
      split at hc
      · rename_i kd hkd
        cases hc
        simp only [evE] at hk
        split at hk
        · rename_i σ' hs'
          obtain ⟨w', q1, q2, q3⟩ := mup_sound hr h ho hm hkk hv hu hkd hs'
          exact ⟨.undef, σ', hk, ρ, w', q2, q3, .inr ⟨rfl, q1⟩⟩
        · cases hk
      · cases hc
    · cases hc
  · repeat' (split at hc)
    all_goals cases hc
  · rename_i x s ho
    split at hc
    · rename_i x' hx
      cases hc
      simp only [evE] at hk
      split at hk
      · rename_i v σ' hs'
        obtain ⟨u, w', q0, q1, q2, q3⟩ := nxt_sound hr h ho hx hs'
        exact ⟨v, σ', hk, ρ, w', q2, q3, .inl ⟨u, q0, q1⟩⟩
      · cases hk
    · cases hc
  · repeat' (split at hc)
    all_goals cases hc
  · rename_i c ho
    split at hc
    · rename_i b args hb ha
      have hx := cXs_sound hr ha
      obtain ⟨v, σ', q1, q2⟩ := builtin_acts (cst := c.args.map fun | .const _ => true | _ => false) (ty := o.type) h hc hx hk
      refine ⟨v, σ', q1, ?_⟩
      obtain ⟨ρ', w', y1, y2, y3⟩ := q2
      refine ⟨ρ', w', y1, y2, ?_⟩
      rw [run_builtin hr ho hb]
      have e : c.args.map r = (List.map r c.args.toList).toArray := by apply Array.toList_inj.1; simp
      rw [e]
      exact y3
    · split at hc
      · cases hc; cases hp
      · cases hc
    · split at hc
      · cases hc; cases hp
      · cases hc
    · cases hc
  · split at hc
    · split at hc
      · cases hc; cases hp
      · cases hc
    · cases hc
  · cases hc
end Go.Proofs.YtjiaoppefinljaaGreatDoor.Ab
