/- Contracts of events: one is read. -/
import Derived.Test.YtjiaoppefinljaaGreatDoorJe
import Derived.Test.YtjiaoppefinljaaGreatDoorJd
import Derived.Test.YtjiaoppefinljaaGreatDoorJf
import Derived.Deep.AppendLies
import Derived.Laws.OwnMore
set_option linter.unusedVariables false
set_option linter.unusedSimpArgs false
set_option linter.unusedSectionVars false
namespace Go.Proofs.YtjiaoppefinljaaGreatDoor.Pk
open Go.RowKit Go.Proofs.YtjiaoppefinljaaGreatDoor.Bkt
set_option maxRecDepth 100000

theorem rnum_le (r : Rd) (most : Nat) : (rnum r most).1 ≤ most := by
  unfold rnum
  split
  · simp
  · split
    · rename_i h; exact h.2
    · simp
set_option maxHeartbeats 2000000 in
theorem take1_any (b p : Nat) (r : Rd) (most : Nat) (hm : most ≤ 1099511627776) (w : World) (h : RdAt w b r) (hs : Short r) (hp : w.cell? ⟨p, 0, none⟩ = some (.pointer (some ⟨b, 0, none⟩))) :
    Calls Tryz.prog 40 #[.int .i64 (most : Int), .pointer (some ⟨p, 0, none⟩)] w fun e w' => e = .returned (.int .i64 ((rnum r most).1 : Nat)) ∧ RdAt w' b (rnum r most).2 ∧ Keep [b] w w' := by
  have hnum := Num_any b r most w h hs
  have hle := rnum_le r most
  have z1 : IntKind.u64.wrap (most : Int) = (most : Int) := u64_wrap_small _ (by omega)
  have z2 : wrap64 ((rnum r most).1 : Nat) = ((rnum r most).1 : Nat) := by rw [wrap64]; omega
  generalize (rnum r most).1 = n at *
  generalize (rnum r most).2 = r2 at *
  go_enter Tryz.func40, Tryz.ntmps40
  go_wp2_with fail
  go_at_call 13
  try rw [z1]
  refine hnum.mono ?_
  rintro e w1 ⟨rfl, hr1, hk1⟩
  clear hp hnum
  go_wp2_with fail
  go_ret
  exact ⟨by first | rw [z2] | rfl | simp [z2], hr1, hk1⟩

/-- what the reading of an event holds between its calls -/
structure Tk (w W : World) (b : Nat) (r : Rd) : Prop where
  box : W.heap[w.heap.size]? = some (.cells #[.pointer (some ⟨b, 0, none⟩)] 44 (0, 0))
  res : W.heap[w.heap.size + 1]? = some (.cells #[.int .i64 0, .int .i64 0, .int .i64 0, .int .i64 0, .int .i64 0, .string ⟨#[]⟩, .string ⟨#[]⟩, .string ⟨#[]⟩] 35 (0, 0))
  rd : RdAt W b r
  keep : Keep [b] w W
  lt : b < w.heap.size
  size : w.heap.size + 2 ≤ W.heap.size
  short : Short r
theorem Tk.call {w W X : World} {b : Nat} {r r2 : Rd} (h : Tk w W b r) (hr : RdAt X b r2) (k : Keep [b] W X) (hs : Short r2) : Tk w X b r2 :=
  ⟨(k.block _ (by have := h.size; omega) (by have := h.lt; simp; omega)).trans h.box, (k.block _ (by have := h.size; omega) (by have := h.lt; simp; omega)).trans h.res, hr, h.keep.trans k, h.lt, Nat.le_trans h.size k.size, hs⟩
theorem Keep.setNew {S : List Nat} {w W : World} (h : Keep S w W) (p : Addr) (hp : w.heap.size ≤ p.block) (v : Value) : Keep S w (W.setCell p v) :=
  ⟨h.os, h.tape, h.output, by rw [show (W.setCell p v).heap.size = W.heap.size from by simp [World.setCell]]; exact h.size, fun k hk hs => (Below.heap_setCell _ _ _ _ (by omega)).trans (h.block k hk hs)⟩
theorem Keep.alloc {S : List Nat} {w W : World} (h : Keep S w W) (o : Obj) : Keep S w (W.alloc o) :=
  ⟨h.os, h.tape, h.output, by simp; have := h.size; omega, fun k hk hs => (heap_alloc_get _ _ _).trans ((if_neg (by have := h.size; omega)).trans (h.block k hk hs))⟩
theorem Tk.cell {w W : World} {b : Nat} {r : Rd} (h : Tk w W b r) {M : Nat} (hM : w.heap.size + 2 ≤ M) (i : Nat) (v : Value) : Tk w (W.setCell ⟨M, i, none⟩ v) b r :=
  ⟨(Below.heap_setCell _ _ _ _ (by show _ ≠ M; omega)).trans h.box, (Below.heap_setCell _ _ _ _ (by show _ ≠ M; omega)).trans h.res, (Below.heap_setCell _ _ _ _ (by have := h.lt; show _ ≠ M; omega)).trans h.rd, h.keep.setNew _ (by show _ ≤ M; omega) v, h.lt, by rw [show (W.setCell ⟨M, i, none⟩ v).heap.size = W.heap.size from by simp [World.setCell]]; exact h.size, h.short⟩
theorem Tk.alloc {w W : World} {b : Nat} {r : Rd} (h : Tk w W b r) (o : Obj) : Tk w (W.alloc o) b r :=
  ⟨(heap_alloc_get _ _ _).trans ((if_neg (by have := h.size; omega)).trans h.box), (heap_alloc_get _ _ _).trans ((if_neg (by have := h.size; omega)).trans h.res), (heap_alloc_get _ _ _).trans ((if_neg (by have := h.size; have := h.lt; omega)).trans h.rd), h.keep.alloc o, h.lt, by simp; have := h.size; omega, h.short⟩
theorem Tk.drew {w W : World} {b : Nat} {r : Rd} (h : Tk w W b r) : Tk w W.drew b r := ⟨h.box, h.res, h.rd, h.keep.drew, h.lt, h.size, h.short⟩
theorem Tk.boxc {w W : World} {b : Nat} {r : Rd} (h : Tk w W b r) : W.cell? ⟨w.heap.size, 0, none⟩ = some (.pointer (some ⟨b, 0, none⟩)) := by unfold World.cell?; rw [h.box]; rfl
theorem row_set {W : World} {g : Nat} {cs : Array Value} {t : TypeId} {fr : Nat × Nat} (h : W.heap[g]? = some (.cells cs t fr)) (i : Nat) (v : Value) : (W.setCell ⟨g, i, none⟩ v).heap[g]? = some (.cells (cs.setIfInBounds i v) t fr) := by
  rw [setCell_eq_setRow W g i _ t fr v h]
  exact setRow_heap W g _ _ t fr h
theorem row_cell {W : World} {g : Nat} {cs : Array Value} {t : TypeId} {fr : Nat × Nat} (h : W.heap[g]? = some (.cells cs t fr)) (i : Nat) {v : Value} (hv : cs[i]? = some v) : W.cell? ⟨g, i, none⟩ = some v := by
  unfold World.cell?; rw [h]; exact hv
theorem row_frozen {W : World} {g : Nat} {cs : Array Value} {t : TypeId} (h : W.heap[g]? = some (.cells cs t (0, 0))) (i : Nat) : W.frozen? ⟨g, i, none⟩ = false := by
  unfold World.frozen?; rw [h]; rfl
theorem results_cell_one {fn : Func} {p : Tmp} {ty : TypeId} (h : fn.results = #[.cell p ty]) (tmps : Array Value) (P : Program) (w : World) :
    (results fn tmps).run P w = ((asAddr (tmps.getD p undef)).run P w).andThen fun a w₁ => (loadVar ty a).run P w₁ := by
  simp only [results, h]
  simp [Sem.run_bind, Result.andThen]
theorem take_end {a : Act} {w : World} {R : Ending → World → Prop} {cs : Array Value} {fr : Nat × Nat} {t : TypeId} {g : Nat} (hd : a.defers = []) (hp : a.tmps.getD 2 undef = .pointer (some ⟨g, 0, none⟩))
    (hg : w.heap[g]? = some (.cells cs t fr)) (hi : (Tryz.prog.info? 35).map (·.size) = some cs.size) (hR : R (.returned (.agg cs)) w) : bodyPost Tryz.prog Tryz.f20 R .ret a w := by
  refine bodyPost_ret (v := .agg cs) ?_ hd hR
  rw [results_cell_one (p := 2) (ty := 35) rfl, hp]
  simp only [asAddr, Sem.run_pure, Result.andThen_ok, run_loadVar_row w g t 35 cs fr _ hg Tryz.underlying35 rfl hi]
theorem rd_set {W : World} {b g : Nat} {r : Rd} (h : RdAt W b r) (hne : b ≠ g) (i : Nat) (v : Value) : RdAt (W.setCell ⟨g, i, none⟩ v) b r := (Below.heap_setCell _ _ _ _ hne).trans h
/-- an event's row, so far -/
def evRow (k p q t m : Nat) (a b c : List UInt8) : Array Value := #[.int .i64 (k : Int), .int .i64 (p : Int), .int .i64 (q : Int), .int .i64 (t : Int), .int .i64 (m : Int), .string (bs a), .string (bs b), .string (bs c)]
/-- what each operation of the last statement leaves -/
def tkF (b M : Nat) (x y z : List UInt8) : Nat → Value → World → Prop
  | 0, v, _ => v = .pointer (some ⟨b, 0, none⟩)
  | 1, v, _ => v = .string (bs x)
  | 2, v, _ => v = .pointer (some ⟨b, 0, none⟩)
  | 3, v, _ => v = .string (bs y)
  | 4, v, _ => v = .pointer (some ⟨b, 0, none⟩)
  | 5, v, _ => v = .string (bs z)
  | 6, v, _ => v = .pointer (some ⟨M, 5, none⟩)
  | 8, v, _ => v = .pointer (some ⟨M, 6, none⟩)
  | 10, v, _ => v = .pointer (some ⟨M, 7, none⟩)
  | _, _, _ => True
def AnyW (_ _ : World) : Prop := True
theorem tkF_stable {b M : Nat} {x y z : List UInt8} : ∀ (W W' : World) (j : Nat) (v : Value), AnyW W W' → tkF b M x y z j v W → tkF b M x y z j v W' := by
  intro W W' j v _ h
  unfold tkF at h ⊢
  split at h <;> exact h
def pick4 {α : Type} (p q s : Bool) (r0 r1 r2 r3 : α) : α := if s then r3 else if q then r2 else if p then r1 else r0
def pick1 (p : Bool) (x : List UInt8) : List UInt8 := if p then x else []
/-- what holds all along the last statement -/
structure TkR (w : World) (b M : Nat) (k p q t m : Nat) (x y z : List UInt8) (r0 r1 r2 r3 : Rd) (d1 d3 d5 d7 d9 d11 : Bool) (W : World) : Prop where
  tk : Tk w W b (pick4 d1 d3 d5 r0 r1 r2 r3)
  row : W.heap[M]? = some (.cells (evRow k p q t m (pick1 d7 x) (pick1 d9 y) (pick1 d11 z)) 35 (0, 0))
theorem tset_ne {d : Nat → Bool} {j k : Nat} (h : k ≠ j) : Facts.Up.set d j k = d k := by
  unfold Facts.Up.set
  rw [beq_false_of_ne h, Bool.false_or]
theorem tset_eq (d : Nat → Bool) (j : Nat) : Facts.Up.set d j j = true := by
  unfold Facts.Up.set
  rw [beq_self_eq_true, Bool.true_or]
theorem TkR.same {w : World} {b M k p q t m : Nat} {x y z : List UInt8} {r0 r1 r2 r3 : Rd} {d : Nat → Bool} {W : World} {j : Nat} (h : TkR w b M k p q t m x y z r0 r1 r2 r3 (d 1) (d 3) (d 5) (d 7) (d 9) (d 11) W)
    (h1 : 1 ≠ j) (h3 : 3 ≠ j) (h5 : 5 ≠ j) (h7 : 7 ≠ j) (h9 : 9 ≠ j) (h11 : 11 ≠ j) : TkR w b M k p q t m x y z r0 r1 r2 r3 (Facts.Up.set d j 1) (Facts.Up.set d j 3) (Facts.Up.set d j 5) (Facts.Up.set d j 7) (Facts.Up.set d j 9) (Facts.Up.set d j 11) W := by
  rw [tset_ne h1, tset_ne h3, tset_ne h5, tset_ne h7, tset_ne h9, tset_ne h11]; exact h
theorem tclosed_no {ops : Array Oper} {d : Nat → Bool} (hc : Facts.Up.Closed ops d) {i j : Nat} (hj : d j = false) (hw : Facts.Up.waits ops i j = true) : d i = false := by
  cases hi : d i with
  | false => rfl
  | true => rw [hc i j hi hw] at hj; cases hj

set_option maxHeartbeats 8000000 in
theorem evTake_any (b : Nat) (r : Rd) (w : World) (h : RdAt w b r) (hs : Short r) :
    Calls Tryz.prog 20 #[.pointer (some ⟨b, 0, none⟩)] w fun e w' => e = .returned (takeE r).1.val ∧ RdAt w' b (takeE r).2 ∧ Keep [b] w w' := by
  have hlt : b < w.heap.size := (Array.getElem?_eq_some_iff.1 h).1
  obtain ⟨n1, r1, e1⟩ : ∃ n q, rnum r 21 = (n, q) := ⟨_, _, rfl⟩
  obtain ⟨n2, r2, e2⟩ : ∃ n q, rnum r1 99 = (n, q) := ⟨_, _, rfl⟩
  obtain ⟨n3, r3, e3⟩ : ∃ n q, rnum r2 9 = (n, q) := ⟨_, _, rfl⟩
  obtain ⟨n4, r4, e4⟩ : ∃ n q, rnum r3 1099511627776 = (n, q) := ⟨_, _, rfl⟩
  obtain ⟨n5, r5, e5⟩ : ∃ n q, rnum r4 1099511627776 = (n, q) := ⟨_, _, rfl⟩
  obtain ⟨x, r6, e6⟩ : ∃ n q, rtext r5 100 = (n, q) := ⟨_, _, rfl⟩
  obtain ⟨y, r7, e7⟩ : ∃ n q, rtext r6 100 = (n, q) := ⟨_, _, rfl⟩
  obtain ⟨z, r8, e8⟩ : ∃ n q, rtext r7 100 = (n, q) := ⟨_, _, rfl⟩
  have HT : Hid (takeE r = (⟨n1, n2, n3, n4, n5, x, y, z⟩, r8)) := Lib.hid (by unfold takeE; simp only [e1, e2, e3, e4, e5, e6, e7, e8])
  have hs1 : Short r1 := by have := hs.rnum 21; rwa [e1] at this
  have hs2 : Short r2 := by have := hs1.rnum 99; rwa [e2] at this
  have hs3 : Short r3 := by have := hs2.rnum 9; rwa [e3] at this
  have hs4 : Short r4 := by have := hs3.rnum 1099511627776; rwa [e4] at this
  have hs5 : Short r5 := by have := hs4.rnum 1099511627776; rwa [e5] at this
  have b1 : n1 ≤ 21 := by have := rnum_le r 21; rwa [e1] at this
  have b2 : n2 ≤ 99 := by have := rnum_le r1 99; rwa [e2] at this
  have b3 : n3 ≤ 9 := by have := rnum_le r2 9; rwa [e3] at this
  have b4 : n4 ≤ 1099511627776 := by have := rnum_le r3 1099511627776; rwa [e4] at this
  have b5 : n5 ≤ 1099511627776 := by have := rnum_le r4 1099511627776; rwa [e5] at this
  have c1 := fun W p (hr : RdAt W b r) hp => take1_any b p r 21 (by decide) W hr hs hp
  have c2 := fun W p (hr : RdAt W b r1) hp => take1_any b p r1 99 (by decide) W hr hs1 hp
  have c3 := fun W p (hr : RdAt W b r2) hp => take1_any b p r2 9 (by decide) W hr hs2 hp
  have c4 := fun W p (hr : RdAt W b r3) hp => take1_any b p r3 1099511627776 (by decide) W hr hs3 hp
  have c5 := fun W p (hr : RdAt W b r4) hp => take1_any b p r4 1099511627776 (by decide) W hr hs4 hp
  rw [e1] at c1
  rw [e2] at c2
  rw [e3] at c3
  rw [e4] at c4
  rw [e5] at c5
  have E1 := Lib.hid e1
  have E6 := Lib.hid e6
  have E7 := Lib.hid e7
  have E8 := Lib.hid e8
  clear e1 e2 e3 e4 e5 e6 e7 e8
  go_enter Tryz.func20, Tryz.ntmps20
  go_wp2_with fail
  have h0 : Tk w ((w.alloc (.cells #[.pointer (some ⟨b, 0, none⟩)] 44)).alloc (.cells #[.int .i64 0, .int .i64 0, .int .i64 0, .int .i64 0, .int .i64 0, .string { data := #[] }, .string { data := #[] }, .string { data := #[] }] 35)) b r := by
    refine ⟨?_, ?_, ?_, ((Keep.refl _ _).alloc _).alloc _, hlt, by simp, hs⟩
    · rw [heap_alloc_get, if_neg (by simp), heap_alloc_get, if_pos rfl]
    · rw [heap_alloc_get, if_pos (by simp)]
    · unfold RdAt
      rw [heap_alloc_get, if_neg (by simp; omega), heap_alloc_get, if_neg (by omega)]
      exact h
  refine (c1 _ _ h0.rd h0.boxc).mono ?_
  rintro e w1 ⟨rfl, hr1, hk1⟩
  have h1 := h0.call hr1 hk1 hs1
  clear hr1 hk1 h0 c1
  have z1 : w.heap.size + 2 ≤ w1.heap.size := h1.size
  go_wp2_with fail
  have h2 := h1.alloc (.cells (evRow n1 0 0 0 0 [] [] []) 35)
  have m2 : (w1.alloc (.cells (evRow n1 0 0 0 0 [] [] []) 35)).heap[w1.heap.size]? = some (.cells (evRow n1 0 0 0 0 [] [] []) 35 (0, 0)) := heap_alloc_new _ _
  have s2 : w1.heap.size < (w1.alloc (.cells (evRow n1 0 0 0 0 [] [] []) 35)).heap.size := by simp
  obtain ⟨W2, hW2⟩ : ∃ W2, W2 = w1.alloc (.cells (evRow n1 0 0 0 0 [] [] []) 35) := ⟨_, rfl⟩
  rw [← hW2] at h2 m2 s2
  first | rw [show w1.alloc (.cells #[.int .i64 (n1 : Int), .int .i64 0, .int .i64 0, .int .i64 0, .int .i64 0, .string { data := #[] }, .string { data := #[] }, .string { data := #[] }] 35) = W2 from hW2.symm] | skip
  have hM : w.heap.size + 2 ≤ w1.heap.size := by omega
  clear hW2 h1 z1
  refine (c2 _ _ h2.rd h2.boxc).mono ?_
  rintro e w2 ⟨rfl, hr2, hk2⟩
  have h3 := h2.call hr2 hk2 hs2
  have m3 := (hk2.block w1.heap.size s2 (by simp; omega)).trans m2
  have s3 := Nat.lt_of_lt_of_le s2 hk2.size
  clear hr2 hk2 h2 m2 s2 c2
  go_wp2_with fail
  refine (c3 _ _ h3.rd h3.boxc).mono ?_
  rintro e w3 ⟨rfl, hr3, hk3⟩
  have h4 := h3.call hr3 hk3 hs3
  have m4 := (hk3.block w1.heap.size s3 (by simp; omega)).trans m3
  have s4 := Nat.lt_of_lt_of_le s3 hk3.size
  clear hr3 hk3 h3 m3 s3 c3
  have d1 := row_cell m4 1 rfl
  have g1 := row_frozen m4 1
  have d2 := row_cell m4 2 rfl
  have g2 := row_frozen m4 2
  go_wp2_with fail
  have h5 := (h4.cell hM 1 (.int .i64 (n2 : Int))).cell hM 2 (.int .i64 (n3 : Int))
  have m5 : ((w3.setCell ⟨w1.heap.size, 1, none⟩ (.int .i64 (n2 : Int))).setCell ⟨w1.heap.size, 2, none⟩ (.int .i64 (n3 : Int))).heap[w1.heap.size]? = some (.cells (evRow n1 n2 n3 0 0 [] [] []) 35 (0, 0)) := row_set (row_set m4 1 _) 2 _
  have s5 : w1.heap.size < ((w3.setCell ⟨w1.heap.size, 1, none⟩ (.int .i64 (n2 : Int))).setCell ⟨w1.heap.size, 2, none⟩ (.int .i64 (n3 : Int))).heap.size := by simpa [World.setCell] using s4
  clear d1 g1 d2 g2 h4 m4 s4
  generalize ((w3.setCell ⟨w1.heap.size, 1, none⟩ (.int .i64 (n2 : Int))).setCell ⟨w1.heap.size, 2, none⟩ (.int .i64 (n3 : Int))) = W5 at *
  refine (c4 _ _ h5.rd h5.boxc).mono ?_
  rintro e w6 ⟨rfl, hr6, hk6⟩
  have h6 := h5.call hr6 hk6 hs4
  have m6 := (hk6.block w1.heap.size s5 (by simp; omega)).trans m5
  have s6 := Nat.lt_of_lt_of_le s5 hk6.size
  clear hr6 hk6 h5 m5 s5 c4
  go_wp2_with fail
  refine (c5 _ _ h6.rd h6.boxc).mono ?_
  rintro e w7 ⟨rfl, hr7, hk7⟩
  have h7 := h6.call hr7 hk7 hs5
  have m7 := (hk7.block w1.heap.size s6 (by simp; omega)).trans m6
  have s7 := Nat.lt_of_lt_of_le s6 hk7.size
  clear hr7 hk7 h6 m6 s6 c5
  have d3 := row_cell m7 3 rfl
  have g3 := row_frozen m7 3
  have d4 := row_cell m7 4 rfl
  have g4 := row_frozen m7 4
  go_wp2_with fail
  have h8 := (h7.cell hM 3 (.int .i64 (n4 : Int))).cell hM 4 (.int .i64 (n5 : Int))
  have m8 : ((w7.setCell ⟨w1.heap.size, 3, none⟩ (.int .i64 (n4 : Int))).setCell ⟨w1.heap.size, 4, none⟩ (.int .i64 (n5 : Int))).heap[w1.heap.size]? = some (.cells (evRow n1 n2 n3 n4 n5 [] [] []) 35 (0, 0)) := row_set (row_set m7 3 _) 4 _
  clear d3 g3 d4 g4 h7 m7 s7
  generalize ((w7.setCell ⟨w1.heap.size, 3, none⟩ (.int .i64 (n4 : Int))).setCell ⟨w1.heap.size, 4, none⟩ (.int .i64 (n5 : Int))) = W8 at *
  have e0 := E6.out
  have e1 := E7.out
  have e2 := E8.out
  refine Facts.Up.wp_region_facts (by kernel_rfl) (tkF b w1.heap.size x y z) AnyW (fun d W => TkR w b w1.heap.size n1 n2 n3 n4 n5 x y z r5 r6 r7 r8 (d 1) (d 3) (d 5) (d 7) (d 9) (d 11) W) (by kernel_rfl) (by kernel_rfl) (by kernel_rfl) tkF_stable ⟨h8.drew, m8⟩ ?_ ?_
  · refine ⟨?_, ?_, ?_, ?_, ?_, ?_, ?_, ?_, ?_, ?_, ?_, ?_, trivial⟩
    · rintro d vs X W hR hj hc hw hD hB
      have s1 := hB.slot 1 (v := .pointer (some ⟨w.heap.size, 0, none⟩)) (by kernel_rfl) rfl
      have c := hR.tk.boxc
      refine Facts.step_value (v := .pointer (some ⟨b, 0, none⟩)) ?_ ?_ ?_ ?_ ?_ ?_
      · rfl
      · exact Facts.wanted_none rfl
      · simp [execOp, s1, go_sem, c]
      · exact (hR.same (by decide) (by decide) (by decide) (by decide) (by decide) (by decide))
      · exact trivial
      · rfl
    · rintro d vs X W hR hj hc hw hD hB
      obtain ⟨f0, s21⟩ := hD.slot 0 21 (by kernel_rfl) (by kernel_rfl)
      rw [(f0 : vs 0 = .pointer (some ⟨b, 0, none⟩))] at s21
      have p3 : d 3 = false := tclosed_no hc hj (by kernel_rfl)
      have p5 : d 5 = false := tclosed_no hc p3 (by kernel_rfl)
      have p7 : d 7 = false := tclosed_no hc p5 (by kernel_rfl)
      have p9 : d 9 = false := tclosed_no hc p7 (by kernel_rfl)
      have p11 : d 11 = false := tclosed_no hc p9 (by kernel_rfl)
      have hk := hR.tk
      have hrow := hR.row
      rw [hj, p3, p5] at hk
      change Tk w W b r5 at hk
      refine Facts.step_call (f := 14) (args := #[.pointer (some ⟨b, 0, none⟩), .int .i64 ((100 : Nat) : Int)]) ?_ ?_ ?_ ((Text_any b r5 100 (by decide) W hk.rd hk.short).mono ?_)
      · rfl
      · exact Facts.wanted_none rfl
      · simp [s21, go_sem]
      · rintro e X2 ⟨rfl, hr2, k2⟩
        refine ⟨_, rfl, ⟨?_, ?_⟩, trivial, by rw [e0]; rfl⟩
        · rw [tset_eq, tset_ne (show 3 ≠ 1 by decide), p3, tset_ne (show 5 ≠ 1 by decide), p5]
          exact hk.call (by rw [e0] at hr2; exact hr2) k2 (by have := hk.short.rtext 100; rwa [e0] at this)
        · rw [tset_ne (show 7 ≠ 1 by decide), tset_ne (show 9 ≠ 1 by decide), tset_ne (show 11 ≠ 1 by decide)]
          exact (k2.block w1.heap.size (Array.getElem?_eq_some_iff.1 hrow).1 (by have := hk.lt; simp; omega)).trans hrow
    · rintro d vs X W hR hj hc hw hD hB
      have s1 := hB.slot 1 (v := .pointer (some ⟨w.heap.size, 0, none⟩)) (by kernel_rfl) rfl
      have c := hR.tk.boxc
      refine Facts.step_value (v := .pointer (some ⟨b, 0, none⟩)) ?_ ?_ ?_ ?_ ?_ ?_
      · rfl
      · exact Facts.wanted_none rfl
      · simp [execOp, s1, go_sem, c]
      · exact (hR.same (by decide) (by decide) (by decide) (by decide) (by decide) (by decide))
      · exact trivial
      · rfl
    · rintro d vs X W hR hj hc hw hD hB
      obtain ⟨f2, s23⟩ := hD.slot 2 23 (by kernel_rfl) (by kernel_rfl)
      rw [(f2 : vs 2 = .pointer (some ⟨b, 0, none⟩))] at s23
      have p1 : d 1 = true := hw 1 (by kernel_rfl)
      have p5 : d 5 = false := tclosed_no hc hj (by kernel_rfl)
      have p7 : d 7 = false := tclosed_no hc p5 (by kernel_rfl)
      have p9 : d 9 = false := tclosed_no hc p7 (by kernel_rfl)
      have p11 : d 11 = false := tclosed_no hc p9 (by kernel_rfl)
      have hk := hR.tk
      have hrow := hR.row
      rw [p1, hj, p5] at hk
      change Tk w W b r6 at hk
      refine Facts.step_call (f := 14) (args := #[.pointer (some ⟨b, 0, none⟩), .int .i64 ((100 : Nat) : Int)]) ?_ ?_ ?_ ((Text_any b r6 100 (by decide) W hk.rd hk.short).mono ?_)
      · rfl
      · exact Facts.wanted_none rfl
      · simp [s23, go_sem]
      · rintro e X2 ⟨rfl, hr2, k2⟩
        refine ⟨_, rfl, ⟨?_, ?_⟩, trivial, by rw [e1]; rfl⟩
        · rw [tset_ne (show 1 ≠ 3 by decide), p1, tset_eq, tset_ne (show 5 ≠ 3 by decide), p5]
          exact hk.call (by rw [e1] at hr2; exact hr2) k2 (by have := hk.short.rtext 100; rwa [e1] at this)
        · rw [tset_ne (show 7 ≠ 3 by decide), tset_ne (show 9 ≠ 3 by decide), tset_ne (show 11 ≠ 3 by decide)]
          exact (k2.block w1.heap.size (Array.getElem?_eq_some_iff.1 hrow).1 (by have := hk.lt; simp; omega)).trans hrow
    · rintro d vs X W hR hj hc hw hD hB
      have s1 := hB.slot 1 (v := .pointer (some ⟨w.heap.size, 0, none⟩)) (by kernel_rfl) rfl
      have c := hR.tk.boxc
      refine Facts.step_value (v := .pointer (some ⟨b, 0, none⟩)) ?_ ?_ ?_ ?_ ?_ ?_
      · rfl
      · exact Facts.wanted_none rfl
      · simp [execOp, s1, go_sem, c]
      · exact (hR.same (by decide) (by decide) (by decide) (by decide) (by decide) (by decide))
      · exact trivial
      · rfl
    · rintro d vs X W hR hj hc hw hD hB
      obtain ⟨f4, s25⟩ := hD.slot 4 25 (by kernel_rfl) (by kernel_rfl)
      rw [(f4 : vs 4 = .pointer (some ⟨b, 0, none⟩))] at s25
      have p3 : d 3 = true := hw 3 (by kernel_rfl)
      have p1 : d 1 = true := hc 3 1 p3 (by kernel_rfl)
      have p7 : d 7 = false := tclosed_no hc hj (by kernel_rfl)
      have p9 : d 9 = false := tclosed_no hc p7 (by kernel_rfl)
      have p11 : d 11 = false := tclosed_no hc p9 (by kernel_rfl)
      have hk := hR.tk
      have hrow := hR.row
      rw [p1, p3, hj] at hk
      change Tk w W b r7 at hk
      refine Facts.step_call (f := 14) (args := #[.pointer (some ⟨b, 0, none⟩), .int .i64 ((100 : Nat) : Int)]) ?_ ?_ ?_ ((Text_any b r7 100 (by decide) W hk.rd hk.short).mono ?_)
      · rfl
      · exact Facts.wanted_none rfl
      · simp [s25, go_sem]
      · rintro e X2 ⟨rfl, hr2, k2⟩
        refine ⟨_, rfl, ⟨?_, ?_⟩, trivial, by rw [e2]; rfl⟩
        · rw [tset_ne (show 1 ≠ 5 by decide), p1, tset_ne (show 3 ≠ 5 by decide), p3, tset_eq]
          exact hk.call (by rw [e2] at hr2; exact hr2) k2 (by have := hk.short.rtext 100; rwa [e2] at this)
        · rw [tset_ne (show 7 ≠ 5 by decide), tset_ne (show 9 ≠ 5 by decide), tset_ne (show 11 ≠ 5 by decide)]
          exact (k2.block w1.heap.size (Array.getElem?_eq_some_iff.1 hrow).1 (by have := hk.lt; simp; omega)).trans hrow
    · rintro d vs X W hR hj hc hw hD hB
      have s4 := hB.slot 4 (v := .pointer (some ⟨w1.heap.size, 0, none⟩)) (by kernel_rfl) rfl
      refine Facts.step_value (v := .pointer (some ⟨w1.heap.size, 5, none⟩)) ?_ ?_ ?_ ?_ ?_ ?_
      · rfl
      · exact Facts.wanted_none rfl
      · simp [execOp, s4, go_sem]
      · exact (hR.same (by decide) (by decide) (by decide) (by decide) (by decide) (by decide))
      · exact trivial
      · rfl
    · rintro d vs X W hR hj hc hw hD hB
      obtain ⟨f6, s27⟩ := hD.slot 6 27 (by kernel_rfl) (by kernel_rfl)
      rw [(f6 : vs 6 = .pointer (some ⟨w1.heap.size, 5, none⟩))] at s27
      obtain ⟨f1, s22⟩ := hD.slot 1 22 (by kernel_rfl) (by kernel_rfl)
      rw [(f1 : vs 1 = .string (bs x))] at s22
      have hrow := hR.row
      have hk := hR.tk
      have g0 := row_frozen hrow 5
      have c0 := row_cell hrow 5 rfl
      refine Facts.Up.step_skip (w' := W.setCell ⟨w1.heap.size, 5, none⟩ (.string (bs x))) ?_ ?_ ?_ ?_ ?_ ?_ ?_
      · rfl
      · exact Facts.wanted_none rfl
      · rfl
      · simp [execOp, s27, s22, go_sem, g0, c0]
      · refine ⟨?_, ?_⟩
        · rw [tset_ne (show 1 ≠ 7 by decide), tset_ne (show 3 ≠ 7 by decide), tset_ne (show 5 ≠ 7 by decide)]
          exact hk.cell hM _ _
        · have := row_set hrow 5 (.string (bs x))
          rw [tset_eq, tset_ne (show 9 ≠ 7 by decide), tset_ne (show 11 ≠ 7 by decide)]
          exact this
      · exact trivial
      · exact fun _ => trivial
    · rintro d vs X W hR hj hc hw hD hB
      have s4 := hB.slot 4 (v := .pointer (some ⟨w1.heap.size, 0, none⟩)) (by kernel_rfl) rfl
      refine Facts.step_value (v := .pointer (some ⟨w1.heap.size, 6, none⟩)) ?_ ?_ ?_ ?_ ?_ ?_
      · rfl
      · exact Facts.wanted_none rfl
      · simp [execOp, s4, go_sem]
      · exact (hR.same (by decide) (by decide) (by decide) (by decide) (by decide) (by decide))
      · exact trivial
      · rfl
    · rintro d vs X W hR hj hc hw hD hB
      obtain ⟨f8, s28⟩ := hD.slot 8 28 (by kernel_rfl) (by kernel_rfl)
      rw [(f8 : vs 8 = .pointer (some ⟨w1.heap.size, 6, none⟩))] at s28
      obtain ⟨f3, s24⟩ := hD.slot 3 24 (by kernel_rfl) (by kernel_rfl)
      rw [(f3 : vs 3 = .string (bs y))] at s24
      have hrow := hR.row
      have hk := hR.tk
      have g0 := row_frozen hrow 6
      have c0 := row_cell hrow 6 rfl
      refine Facts.Up.step_skip (w' := W.setCell ⟨w1.heap.size, 6, none⟩ (.string (bs y))) ?_ ?_ ?_ ?_ ?_ ?_ ?_
      · rfl
      · exact Facts.wanted_none rfl
      · rfl
      · simp [execOp, s28, s24, go_sem, g0, c0]
      · refine ⟨?_, ?_⟩
        · rw [tset_ne (show 1 ≠ 9 by decide), tset_ne (show 3 ≠ 9 by decide), tset_ne (show 5 ≠ 9 by decide)]
          exact hk.cell hM _ _
        · have := row_set hrow 6 (.string (bs y))
          rw [tset_ne (show 7 ≠ 9 by decide), tset_eq, tset_ne (show 11 ≠ 9 by decide)]
          exact this
      · exact trivial
      · exact fun _ => trivial
    · rintro d vs X W hR hj hc hw hD hB
      have s4 := hB.slot 4 (v := .pointer (some ⟨w1.heap.size, 0, none⟩)) (by kernel_rfl) rfl
      refine Facts.step_value (v := .pointer (some ⟨w1.heap.size, 7, none⟩)) ?_ ?_ ?_ ?_ ?_ ?_
      · rfl
      · exact Facts.wanted_none rfl
      · simp [execOp, s4, go_sem]
      · exact (hR.same (by decide) (by decide) (by decide) (by decide) (by decide) (by decide))
      · exact trivial
      · rfl
    · rintro d vs X W hR hj hc hw hD hB
      obtain ⟨f10, s29⟩ := hD.slot 10 29 (by kernel_rfl) (by kernel_rfl)
      rw [(f10 : vs 10 = .pointer (some ⟨w1.heap.size, 7, none⟩))] at s29
      obtain ⟨f5, s26⟩ := hD.slot 5 26 (by kernel_rfl) (by kernel_rfl)
      rw [(f5 : vs 5 = .string (bs z))] at s26
      have hrow := hR.row
      have hk := hR.tk
      have g0 := row_frozen hrow 7
      have c0 := row_cell hrow 7 rfl
      refine Facts.Up.step_skip (w' := W.setCell ⟨w1.heap.size, 7, none⟩ (.string (bs z))) ?_ ?_ ?_ ?_ ?_ ?_ ?_
      · rfl
      · exact Facts.wanted_none rfl
      · rfl
      · simp [execOp, s29, s26, go_sem, g0, c0]
      · refine ⟨?_, ?_⟩
        · rw [tset_ne (show 1 ≠ 11 by decide), tset_ne (show 3 ≠ 11 by decide), tset_ne (show 5 ≠ 11 by decide)]
          exact hk.cell hM _ _
        · have := row_set hrow 7 (.string (bs z))
          rw [tset_ne (show 7 ≠ 11 by decide), tset_ne (show 9 ≠ 11 by decide), tset_eq]
          exact this
      · exact trivial
      · exact fun _ => trivial
  · rintro d vs W hd hR hF
    have hk := hR.tk
    have hrow := hR.row
    rw [hd 1 (by decide), hd 3 (by decide), hd 5 (by decide)] at hk
    rw [hd 7 (by decide), hd 9 (by decide), hd 11 (by decide)] at hrow
    clear hR hF hd
    change Tk w W b r8 at hk
    change W.heap[w1.heap.size]? = some (.cells #[.int .i64 (n1 : Int), .int .i64 (n2 : Int), .int .i64 (n3 : Int), .int .i64 (n4 : Int), .int .i64 (n5 : Int), .string (bs x), .string (bs y), .string (bs z)] 35 (0, 0)) at hrow
    have l0 := row_cell hrow 0 rfl
    have l1 := row_cell hrow 1 rfl
    have l2 := row_cell hrow 2 rfl
    have l3 := row_cell hrow 3 rfl
    have l4 := row_cell hrow 4 rfl
    have l5 := row_cell hrow 5 rfl
    have l6 := row_cell hrow 6 rfl
    have l7 := row_cell hrow 7 rfl
    have hres := hk.res
    have q0 := row_cell hres 0 rfl
    have q1 := row_cell hres 1 rfl
    have q2 := row_cell hres 2 rfl
    have q3 := row_cell hres 3 rfl
    have q4 := row_cell hres 4 rfl
    have q5 := row_cell hres 5 rfl
    have q6 := row_cell hres 6 rfl
    have q7 := row_cell hres 7 rfl
    have u0 := row_frozen hres 0
    have u1 := row_frozen hres 1
    have u2 := row_frozen hres 2
    have u3 := row_frozen hres 3
    have u4 := row_frozen hres 4
    have u5 := row_frozen hres 5
    have u6 := row_frozen hres 6
    have u7 := row_frozen hres 7
    simp only [Facts.frameEnd, List.zipIdx, List.foldl, Act.put, List.setIfInBounds_toArray, List.set_cons_succ, List.set_cons_zero, Nat.reduceAdd]
    go_wp2_with fail
    have hne : b ≠ w.heap.size + 1 := by omega
    have m9 := row_set (row_set (row_set (row_set (row_set (row_set (row_set (row_set hres 0 (.int .i64 (n1 : Int))) 1 (.int .i64 (n2 : Int))) 2 (.int .i64 (n3 : Int))) 3 (.int .i64 (n4 : Int))) 4 (.int .i64 (n5 : Int))) 5 (.string (bs x))) 6 (.string (bs y))) 7 (.string (bs z))
    have hr9 := rd_set (rd_set (rd_set (rd_set (rd_set (rd_set (rd_set (rd_set hk.rd hne 0 (.int .i64 (n1 : Int))) hne 1 (.int .i64 (n2 : Int))) hne 2 (.int .i64 (n3 : Int))) hne 3 (.int .i64 (n4 : Int))) hne 4 (.int .i64 (n5 : Int))) hne 5 (.string (bs x))) hne 6 (.string (bs y))) hne 7 (.string (bs z))
    have hle : ∀ i, w.heap.size ≤ (⟨w.heap.size + 1, i, none⟩ : Addr).block := fun _ => Nat.le_succ _
    have hk9 := (((((((hk.keep.setNew _ (hle 0) (.int .i64 (n1 : Int))).setNew _ (hle 1) (.int .i64 (n2 : Int))).setNew _ (hle 2) (.int .i64 (n3 : Int))).setNew _ (hle 3) (.int .i64 (n4 : Int))).setNew _ (hle 4) (.int .i64 (n5 : Int))).setNew _ (hle 5) (.string (bs x))).setNew _ (hle 6) (.string (bs y))).setNew _ (hle 7) (.string (bs z))
    refine take_end rfl rfl m9 (by kernel_rfl) ⟨?_, ?_, hk9⟩
    · rw [HT.out]; rfl
    · rw [HT.out]; exact hr9
end Go.Proofs.YtjiaoppefinljaaGreatDoor.Pk

/- Contracts of events: rows of events. -/
namespace Go.Proofs.YtjiaoppefinljaaGreatDoor.Pk
open Go.RowKit
set_option maxRecDepth 100000

/-- an event that lies at an address -/
structure EvAt (w : World) (ad : Addr) (e : Ev) : Prop where
  c0 : w.cell? ad = some (.int .i64 e.kind)
  c1 : w.cell? ⟨ad.block, ad.off + 1, none⟩ = some (.int .i64 e.account)
  c2 : w.cell? ⟨ad.block, ad.off + 2, none⟩ = some (.int .i64 e.purpose)
  c3 : w.cell? ⟨ad.block, ad.off + 3, none⟩ = some (.int .i64 e.at_)
  c4 : w.cell? ⟨ad.block, ad.off + 4, none⟩ = some (.int .i64 e.n)
  c5 : w.cell? ⟨ad.block, ad.off + 5, none⟩ = some (.string (bs e.a))
  c6 : w.cell? ⟨ad.block, ad.off + 6, none⟩ = some (.string (bs e.b))
  c7 : w.cell? ⟨ad.block, ad.off + 7, none⟩ = some (.string (bs e.c))
theorem EvAt.below {w w' : World} {ad : Addr} {e : Ev} {B : Nat} (h : EvAt w ad e) (hb : Below B w w') (hl : ad.block < B) : EvAt w' ad e :=
  ⟨(hb.cell hl).trans h.c0, (hb.cell (by exact hl)).trans h.c1, (hb.cell (by exact hl)).trans h.c2, (hb.cell (by exact hl)).trans h.c3, (hb.cell (by exact hl)).trans h.c4, (hb.cell (by exact hl)).trans h.c5, (hb.cell (by exact hl)).trans h.c6, (hb.cell (by exact hl)).trans h.c7⟩
theorem blk_add (ad : Addr) (n : Nat) : (ad.add n).block = ad.block := by
  unfold Addr.add
  split <;> rfl
/-- a slice's events -/
def EvRow (w : World) (A : Option Addr) (l : List Ev) : Prop := ∀ i (h : i < l.length), ∃ ad, A = some ad ∧ ad.block < w.heap.size ∧ EvAt w (ad.add (i * 8)) (l[i]'h)
theorem EvRow.below {w w' : World} {A : Option Addr} {l : List Ev} (h : EvRow w A l) (hb : Below w.heap.size w w') : EvRow w' A l := by
  intro i hi
  obtain ⟨ad, e, hl, ha⟩ := h i hi
  exact ⟨ad, e, Nat.lt_of_lt_of_le hl hb.size, ha.below hb (by rw [blk_add]; exact hl)⟩
def EvSl (v : Value) (l : List Ev) (w : World) : Prop := ∃ A c, v = .slice A l.length c ∧ EvRow w A l
theorem EvSl.below {w w' : World} {v : Value} {l : List Ev} (h : EvSl v l w) (hb : Below w.heap.size w w') : EvSl v l w' := by
  obtain ⟨A, c, e, hr⟩ := h
  exact ⟨A, c, e, hr.below hb⟩
theorem evSl_nil (w : World) : EvSl (.slice none 0 0) [] w := ⟨none, 0, rfl, fun i h => absurd h (by simp)⟩

def cells8 (l : List Ev) : List Value := l.flatMap Ev.cells
theorem cells8_length (l : List Ev) : (cells8 l).length = l.length * 8 := by
  induction l with
  | nil => rfl
  | cons b l ih => unfold cells8 at ih ⊢; rw [List.flatMap_cons, List.length_append, ih]; simp [Ev.cells]; omega
theorem cells8_append (l m : List Ev) : cells8 (l ++ m) = cells8 l ++ cells8 m := by unfold cells8; simp
theorem cells8_at (l : List Ev) (i : Nat) (hi : i < l.length) (j : Nat) (hj : j < 8) : (cells8 l)[i * 8 + j]? = (l[i]'hi).cells[j]? := by
  induction l generalizing i with
  | nil => simp at hi
  | cons b l ih =>
    unfold cells8 at ih ⊢
    rw [List.flatMap_cons]
    have hb : b.cells.length = 8 := rfl
    match i with
    | 0 => rw [List.getElem?_append_left (by omega)]; simp
    | i + 1 =>
      rw [List.getElem?_append_right (by omega), show (i + 1) * 8 + j - b.cells.length = i * 8 + j from by omega]
      exact ih i (by simpa using hi)
theorem cells_one8 (e : Ev) : ∀ u ∈ e.cells, u.oneCell' = true := by
  intro u hu
  simp only [Ev.cells, List.mem_cons, List.not_mem_nil, or_false] at hu
  rcases hu with rfl | rfl | rfl | rfl | rfl | rfl | rfl | rfl <;> rfl
/-- a row that append made -/
theorem owned_evSl {w : World} {base : Nat} {v : Value} {l : List Ev} (h : w.ownsRow base 35 8 v l.length (cells8 l)) : EvSl v l w := by
  rcases h.2 with ⟨hv, hn⟩ | ⟨g, cap, cur, hv, hbg, hh, hnc, hcm, hcs, htake⟩
  · have hl : l = [] := List.eq_nil_of_length_eq_zero hn
    subst hl
    subst hv
    exact evSl_nil w
  · have hlt : g < w.heap.size := by
      rcases Nat.lt_or_ge g w.heap.size with hlt | hge
      · exact hlt
      · rw [Array.getElem?_eq_none hge] at hh; cases hh
    subst hv
    refine ⟨some ⟨g, 0, none⟩, cap, rfl, fun i hi => ⟨⟨g, 0, none⟩, rfl, hlt, ?_⟩⟩
    have hc : ∀ j, j < 8 → w.cell? ⟨g, i * 8 + j, none⟩ = (l[i]'hi).cells[j]? := by
      intro j hj
      rw [h.cellAt (i * 8 + j) (by omega), cells8_at l i hi j hj]
    have e : (⟨g, 0, none⟩ : Addr).add (i * 8) = ⟨g, i * 8, none⟩ := by rw [Addr.add_lit, Nat.zero_add]
    rw [e]
    exact ⟨hc 0 (by omega), hc 1 (by omega), hc 2 (by omega), hc 3 (by omega), hc 4 (by omega), hc 5 (by omega), hc 6 (by omega), hc 7 (by omega)⟩
theorem info35 : (Tryz.prog.info? 35).map (fun i => (i.zero, i.size, i.bytes)) = some (some (.agg #[.int .i64 0, .int .i64 0, .int .i64 0, .int .i64 0, .int .i64 0, .string ⟨#[]⟩, .string ⟨#[]⟩, .string ⟨#[]⟩]), 8, 88) := by kernel_rfl
theorem info35_parts : ∃ i0, Tryz.prog.info? 35 = some i0 ∧ i0.zero = some (.agg #[.int .i64 0, .int .i64 0, .int .i64 0, .int .i64 0, .int .i64 0, .string ⟨#[]⟩, .string ⟨#[]⟩, .string ⟨#[]⟩]) ∧ i0.size = 8 ∧ i0.bytes = 88 := by
  have h := info35
  cases hi : Tryz.prog.info? 35 with
  | none => rw [hi] at h; cases h
  | some i0 =>
    rw [hi] at h
    simp only [Option.map_some, Option.some.injEq, Prod.mk.injEq] at h
    exact ⟨i0, rfl, h.1, h.2.1, h.2.2⟩
theorem Keep.grown {b : Nat} {w w' : World} (k : Keep [b] w w') : w.grownBy w' (some b) := ⟨k.os, k.tape, k.output, k.size, fun i hi hr => k.block i hi (by simp only [List.mem_singleton]; exact fun e => hr (by rw [e]))⟩
theorem Below.grown' {w w' : World} (h : Below w.heap.size w w') : w.grownBy w' none := ⟨h.os, h.tape, h.output, h.size, fun i hi _ => h.block i hi⟩
theorem WrAt.below {w w' : World} {B b : Nat} {l : List UInt8} (h : WrAt w B b l) (hb : Below w.heap.size w w') : WrAt w' B b l := by
  have key : ∀ p, Lib.BuilderAtF 58 5 B b p (Lib.byteCells l) w → Lib.BuilderAtF 58 5 B b p (Lib.byteCells l) w' := by
    intro p hp
    have hlt := hp.lt
    obtain ⟨hB, v, hbk, hown, hne⟩ := hp
    exact ⟨hB, v, (hb.block b hlt).trans hbk, hown.kept (Below.grown' hb) (by cases hv : v.ownBlock <;> simp), hne⟩
  exact h.elim (fun x => .inl (key _ x)) (fun x => .inr (key _ x))
theorem Wrote.of_below {w w' : World} {B b : Nat} (hb : Below w.heap.size w w') (hB : B ≤ w.heap.size) : Wrote B b w w' :=
  ⟨hb.mono hB, fun k _ hk _ _ => (hb.block k (Array.getElem?_eq_some_iff.1 hk).1).trans hk⟩
end Go.Proofs.YtjiaoppefinljaaGreatDoor.Pk
