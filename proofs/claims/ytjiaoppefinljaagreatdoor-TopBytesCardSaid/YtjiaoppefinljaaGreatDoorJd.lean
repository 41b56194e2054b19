/- A region that draws its order, by facts: one obligation for each operation, whatever the order. -/
import Derived.Orders
import Derived.Test.YtjiaoppefinljaaGreatDoorRows
set_option linter.unusedVariables false
set_option linter.unusedSimpArgs false
set_option linter.unusedSectionVars false
namespace Go.Proofs.YtjiaoppefinljaaGreatDoor.Bkt
namespace Facts

section
variable {P : Program} {ops : Array Oper} {Q : Exit → Act → World → Prop}

def dstOf (ops : Array Oper) (j : Nat) : Option Tmp := (ops[j]?).bind (·.dst)

/-- what an operation may count on: what the operations that it waits for have left -/
def Deps (ops : Array Oper) (F : Nat → Value → World → Prop) (o : Oper) (vs : Nat → Value) (a : Act) (w : World) : Prop :=
  ∀ e ∈ o.after.toList, Region.binds .any e = true → F e.on (vs e.on) w ∧ ∀ t, dstOf ops e.on = some t → a.tmps[t]? = some (vs e.on)
/-- slots that no operation of the region writes -/
def Base (ops : Array Oper) (a0 a : Act) : Prop := ∀ t, (∀ j, dstOf ops j ≠ some t) → a.tmps[t]? = a0.tmps[t]?

/-- operation j, at whatever state it comes up -/
def Step (P : Program) (ops : Array Oper) (Q : Exit → Act → World → Prop) (F : Nat → Value → World → Prop) (E : World → World → Prop) (R : World → Prop) (a0 : Act) (j : Nat) (o : Oper) : Prop :=
  ∀ (vs : Nat → Value) (a : Act) (w : World), R w → Deps ops F o vs a w → Base ops a0 a →
    wpOp P ops Q j (fun a' w' => ∃ v, a' = a.put o.dst v ∧ R w' ∧ E w w' ∧ F j v w') a w
def StepAll (P : Program) (ops : Array Oper) (Q : Exit → Act → World → Prop) (F : Nat → Value → World → Prop) (E : World → World → Prop) (R : World → Prop) (a0 : Act) : Nat → List Oper → Prop
  | _, [] => True
  | j, o :: os => Step P ops Q F E R a0 j o ∧ StepAll P ops Q F E R a0 (j + 1) os
theorem StepAll.get {F : Nat → Value → World → Prop} {E : World → World → Prop} {R : World → Prop} {a0 : Act} : ∀ {j : Nat} {os : List Oper} (_ : StepAll P ops Q F E R a0 j os) {i : Nat} {o : Oper}, os[i]? = some o → Step P ops Q F E R a0 (j + i) o
  | j, [], _, i, o, h => by simp at h
  | j, x :: os, hs, 0, o, h => by
    simp only [List.getElem?_cons_zero, Option.some.injEq] at h
    subst h
    exact hs.1
  | j, x :: os, hs, i + 1, o, h => by
    simp only [List.getElem?_cons_succ] at h
    have := StepAll.get hs.2 h
    rw [show j + (i + 1) = j + 1 + i from by omega]
    exact this

/-- each operation waits for elder ones alone -/
def backOk (ops : Array Oper) : Bool := (List.range ops.size).all fun i => ((ops[i]?).map fun o => o.after.toList.all fun e => !Region.binds .any e || decide (e.on < i)).getD true
/-- no two write one slot -/
def dstOk (ops : Array Oper) : Bool := (List.range ops.size).all fun i => (List.range i).all fun j => match dstOf ops i with | some t => dstOf ops j != some t | none => true

theorem dst_ne (h : dstOk ops = true) {i j : Nat} {t : Tmp} (hi : dstOf ops i = some t) (hj : dstOf ops j = some t) : i = j := by
  have hlt : ∀ k t, dstOf ops k = some t → k < ops.size := by
    intro k t hk
    unfold dstOf at hk
    rcases Nat.lt_or_ge k ops.size with h' | h'
    · exact h'
    · rw [Array.getElem?_eq_none h'] at hk; cases hk
  have key : ∀ i j, j < i → dstOf ops i = some t → dstOf ops j = some t → False := by
    intro i j hji hi hj
    unfold dstOk at h
    rw [List.all_eq_true] at h
    have h1 := h i (List.mem_range.2 (hlt i t hi))
    rw [List.all_eq_true] at h1
    have h2 := h1 j (List.mem_range.2 hji)
    rw [hi] at h2
    simp [hj] at h2
  rcases Nat.lt_trichotomy i j with h1 | h1 | h1
  · exact (key j i h1 hj hi).elim
  · exact h1
  · exact (key i j h1 hi hj).elim

/-- what holds when the operations of 'listed' have come up -/
structure Inv (ops : Array Oper) (F : Nat → Value → World → Prop) (R : World → Prop) (a0 : Act) (listed : Array Bool) (vs : Nat → Value) (a : Act) (w : World) : Prop where
  size : a.tmps.size = a0.tmps.size
  defers : a.defers = a0.defers
  world : R w
  facts : ∀ j, listed.getD j false = true → F j (vs j) w
  slots : ∀ j t, listed.getD j false = true → dstOf ops j = some t → t < a0.tmps.size → a.tmps[t]? = some (vs j)
  rest : ∀ t, (∀ j, listed.getD j false = true → dstOf ops j ≠ some t) → a.tmps[t]? = a0.tmps[t]?

theorem put_get (a : Act) (d : Option Tmp) (v : Value) (t : Tmp) : (a.put d v).tmps[t]? = if d = some t ∧ t < a.tmps.size then some v else a.tmps[t]? := by
  cases d with
  | none => simp [Act.put]
  | some d =>
    unfold Act.put
    simp only [Array.getElem?_setIfInBounds]
    by_cases h : d = t
    · subst h
      by_cases hl : d < a.tmps.size
      · simp [hl]
      · simp [hl]
    · simp [h]
theorem put_size (a : Act) (d : Option Tmp) (v : Value) : (a.put d v).tmps.size = a.tmps.size := by cases d <;> simp [Act.put]
theorem put_defs (a : Act) (d : Option Tmp) (v : Value) : (a.put d v).defers = a.defers := by cases d <;> rfl

/-- the frame behind the region -/
def frameEnd (ops : Array Oper) (vs : Nat → Value) (a0 : Act) : Act := ops.toList.zipIdx.foldl (fun a p => a.put p.1.dst (vs p.2)) a0

theorem frame_fold (vs : Nat → Value) (a : Act) (l : List (Oper × Nat)) (hd : ∀ (i j : Nat) (t : Tmp), l[i]?.bind (fun (p : Oper × Nat) => p.1.dst) = some t → l[j]?.bind (fun (p : Oper × Nat) => p.1.dst) = some t → i = j) :
    (l.foldl (fun a p => a.put p.1.dst (vs p.2)) a).tmps.size = a.tmps.size ∧ (l.foldl (fun a p => a.put p.1.dst (vs p.2)) a).defers = a.defers ∧
    (∀ t, (∀ p ∈ l, p.1.dst ≠ some t) → (l.foldl (fun a p => a.put p.1.dst (vs p.2)) a).tmps[t]? = a.tmps[t]?) ∧
    (∀ t p, p ∈ l → p.1.dst = some t → t < a.tmps.size → (l.foldl (fun a p => a.put p.1.dst (vs p.2)) a).tmps[t]? = some (vs p.2)) := by
  induction l generalizing a with
  | nil => exact ⟨rfl, rfl, fun _ _ => rfl, fun _ _ h => by cases h⟩
  | cons x l ih =>
    have hd' : ∀ (i j : Nat) (t : Tmp), l[i]?.bind (fun (p : Oper × Nat) => p.1.dst) = some t → l[j]?.bind (fun (p : Oper × Nat) => p.1.dst) = some t → i = j := by
      intro i j t hi hj
      have := hd (i + 1) (j + 1) t (by simpa using hi) (by simpa using hj)
      omega
    obtain ⟨h1, h2, h3, h4⟩ := ih (a.put x.1.dst (vs x.2)) hd'
    simp only [List.foldl_cons]
    refine ⟨by rw [h1, put_size], by rw [h2, put_defs], ?_, ?_⟩
    · intro t ht
      rw [h3 t (fun p hp => ht p (by simp [hp])), put_get, if_neg]
      exact fun h => ht x (by simp) h.1
    · intro t p hp hpt hlt
      rcases List.mem_cons.1 hp with rfl | hp
      · by_cases hex : ∃ q ∈ l, q.1.dst = some t
        · obtain ⟨q, hq, hqt⟩ := hex
          obtain ⟨i, hi⟩ := List.getElem?_of_mem hq
          have := hd 0 (i + 1) t (by simpa using hpt) (by simp [hi, hqt])
          omega
        · rw [h3 t (fun q hq hqt => hex ⟨q, hq, hqt⟩), put_get, if_pos ⟨hpt, hlt⟩]
      · exact h4 t p hp hpt (by rw [put_size]; exact hlt)

theorem zip_get (ops : Array Oper) (j : Nat) : ops.toList.zipIdx[j]? = (ops[j]?).map fun o => (o, j) := by
  rw [List.getElem?_zipIdx]
  simp

/-- all have come up: the frame is known -/
theorem Inv.frame {F : Nat → Value → World → Prop} {R : World → Prop} {a0 a : Act} {listed : Array Bool} {vs : Nat → Value} {w : World} (hd : dstOk ops = true)
    (h : Inv ops F R a0 listed vs a w) (hall : ∀ j, j < ops.size → listed.getD j false = true) : a = frameEnd ops vs a0 := by
  have hl : ∀ (i j : Nat) (t : Tmp), ops.toList.zipIdx[i]?.bind (fun (p : Oper × Nat) => p.1.dst) = some t → ops.toList.zipIdx[j]?.bind (fun (p : Oper × Nat) => p.1.dst) = some t → i = j := by
    intro i j t hi hj
    rw [zip_get] at hi hj
    refine dst_ne hd (t := t) ?_ ?_
    · unfold dstOf; cases hx : ops[i]? <;> simp [hx] at hi ⊢; exact hi
    · unfold dstOf; cases hx : ops[j]? <;> simp [hx] at hj ⊢; exact hj
  obtain ⟨f1, f2, f3, f4⟩ := frame_fold vs a0 ops.toList.zipIdx hl
  have ht : a.tmps = (frameEnd ops vs a0).tmps := by
    apply Array.ext_getElem?
    intro t
    unfold frameEnd
    by_cases hex : ∃ j, dstOf ops j = some t
    · obtain ⟨j, hj⟩ := hex
      have hjs : j < ops.size := by
        unfold dstOf at hj
        rcases Nat.lt_or_ge j ops.size with h' | h'
        · exact h'
        · rw [Array.getElem?_eq_none h'] at hj; cases hj
      by_cases hlt : t < a0.tmps.size
      · rw [h.slots j t (hall j hjs) hj hlt]
        have hm : (ops[j], j) ∈ ops.toList.zipIdx := by
          apply List.mem_of_getElem? (i := j)
          rw [zip_get, Array.getElem?_eq_getElem hjs]; rfl
        have hdd : ops[j].dst = some t := by
          unfold dstOf at hj
          rw [Array.getElem?_eq_getElem hjs] at hj
          exact hj
        exact (f4 t (ops[j], j) hm hdd hlt).symm
      · rw [Array.getElem?_eq_none (by rw [h.size]; omega), Array.getElem?_eq_none (by rw [f1]; omega)]
    · rw [h.rest t (fun j _ hj => hex ⟨j, hj⟩)]
      rw [f3 t]
      intro p hp hpt
      obtain ⟨i, hi⟩ := List.getElem?_of_mem hp
      rw [zip_get] at hi
      refine hex ⟨i, ?_⟩
      unfold dstOf
      cases hx : ops[i]? with
      | none => rw [hx] at hi; cases hi
      | some o =>
        rw [hx] at hi
        simp only [Option.map_some, Option.some.injEq] at hi
        subst hi
        exact hpt
  have hdef : a.defers = (frameEnd ops vs a0).defers := by rw [h.defers]; exact f2.symm
  cases a with
  | mk x y =>
    revert ht hdef
    generalize frameEnd ops vs a0 = b
    cases b with
    | mk x' y' => intro h1 h2; simp only at h1 h2; rw [h1, h2]

theorem all_listed (hb : backOk ops = true) {listed : Array Bool} (hsz : listed.size = ops.size) (hr : Region.ready .any ops listed = []) : ∀ j, j < ops.size → listed.getD j false = true := by
  have key : ∀ n j, j < n → j < ops.size → listed.getD j false = true := by
    intro n
    induction n with
    | zero => intro j h; omega
    | succ n ih =>
      intro j hjn hjs
      cases hl : listed.getD j false with
      | true => rfl
      | false =>
        exfalso
        have hm : j ∈ Region.ready .any ops listed := by
          rw [mem_ready]
          refine ⟨?_, ops[j], Array.getElem?_eq_getElem hjs, ?_⟩
          · have hjl : j < listed.size := by omega
            rw [Array.getD_eq_getD_getElem?, Array.getElem?_eq_getElem hjl] at hl ⊢
            exact hl
          · intro e he hbind
            have hk := hb
            unfold backOk at hk
            rw [List.all_eq_true] at hk
            have h1 := hk j (List.mem_range.2 hjs)
            rw [Array.getElem?_eq_getElem hjs] at h1
            simp only [Option.map_some, Option.getD_some, List.all_eq_true] at h1
            have h2 := h1 e (by simpa using he)
            rw [hbind] at h2
            simp at h2
            exact ih e.on (by omega) (by omega)
        rw [hr] at hm
        cases hm
  intro j hj
  exact key (j + 1) j (by omega) hj

theorem sound {F : Nat → Value → World → Prop} {E : World → World → Prop} {R : World → Prop} {a0 : Act} (hb : backOk ops = true) (hd : dstOk ops = true)
    (hin : ∀ j t, dstOf ops j = some t → t < a0.tmps.size) (hE : ∀ w w' j v, E w w' → F j v w → F j v w')
    (hs : StepAll P ops Q F E R a0 0 ops.toList) (hfin : ∀ vs w, R w → (∀ j, j < ops.size → F j (vs j) w) → Q .normal (frameEnd ops vs a0) w) :
    ∀ (fuel : Nat) (listed : Array Bool) (vs : Nat → Value) (a : Act) (w : World), listed.size = ops.size → (listed.toList.countP (fun b => !b)) ≤ fuel → Inv ops F R a0 listed vs a w → wpAny P .any ops Q fuel listed a w := by
  have hdone : ∀ (listed : Array Bool) (vs : Nat → Value) (a : Act) (w : World), listed.size = ops.size → Inv ops F R a0 listed vs a w → Region.ready .any ops listed = [] → Q .normal a w := by
    intro listed vs a w hsz hI hr
    have hall := all_listed hb hsz hr
    rw [hI.frame hd hall]
    exact hfin vs w hI.world (fun j hj => hI.facts j (hall j hj))
  intro fuel
  induction fuel with
  | zero =>
    intro listed vs a w hsz hc hI
    have hr : Region.ready .any ops listed = [] := by
      cases hr : Region.ready .any ops listed with
      | nil => rfl
      | cons i is =>
        have hm : i ∈ Region.ready .any ops listed := by rw [hr]; simp
        obtain ⟨h0, o, ho, _⟩ := mem_ready.1 hm
        have hi : i < listed.size := by rw [hsz]; exact (Array.getElem?_eq_some_iff.1 ho).1
        have hz : listed.toList.countP (fun b => !b) = 0 := by omega
        rw [List.countP_eq_zero] at hz
        have := hz listed[i] (by simp)
        rw [Array.getD_eq_getD_getElem?, Array.getElem?_eq_getElem hi] at h0
        simp at h0
        simp [h0] at this
    exact ⟨hr, hdone listed vs a w hsz hI hr⟩
  | succ fuel ih =>
    intro listed vs a w hsz hc hI
    refine ⟨hdone listed vs a w hsz hI, fun i hi => ?_⟩
    obtain ⟨h0, o, ho, hdeps⟩ := mem_ready.1 hi
    have hil : i < listed.size := by rw [hsz]; exact (Array.getElem?_eq_some_iff.1 ho).1
    have hst := StepAll.get hs (i := i) (o := o) (by simpa using ho)
    rw [Nat.zero_add] at hst
    have hdst : dstOf ops i = o.dst := by unfold dstOf; rw [ho]; rfl
    have hD : Deps ops F o vs a w := by
      intro e he hbind
      have hl := hdeps e (by simpa using he) hbind
      exact ⟨hI.facts _ hl, fun t ht => hI.slots _ t hl ht (hin _ _ ht)⟩
    have hB : Base ops a0 a := fun t ht => hI.rest t (fun j _ => ht j)
    refine wpOp_mono ?_ (hst vs a w hI.world hD hB)
    rintro a' w' ⟨v, rfl, hR, hEw, hF⟩
    have hfalse : listed.getD i false = false := by
      rw [Array.getD_eq_getD_getElem?, Array.getElem?_eq_getElem hil] at h0 ⊢
      exact h0
    refine ih (listed.setIfInBounds i true) (fun j => if j = i then v else vs j) _ w' (by simpa using hsz) ?_ ?_
    · have : (listed.setIfInBounds i true).toList.countP (fun b => !b) + 1 = listed.toList.countP (fun b => !b) := by
        rw [Array.toList_setIfInBounds]
        have hil' : i < listed.toList.length := by simpa using hil
        have hx : listed.toList[i] = false := by
          rw [Array.getD_eq_getD_getElem?, Array.getElem?_eq_getElem hil] at hfalse
          simpa using hfalse
        rw [List.countP_set hil', hx]
        have hpos : 0 < listed.toList.countP (fun b => !b) := by
          rw [List.countP_pos_iff]
          exact ⟨false, by rw [← hx]; exact List.getElem_mem hil', rfl⟩
        simp only [Bool.not_false, if_true, Bool.not_true, Bool.false_eq_true, if_false]
        omega
      omega
    · have hset : ∀ j, (listed.setIfInBounds i true).getD j false = true → j = i ∨ listed.getD j false = true := by
        intro j hj
        by_cases e : j = i
        · exact Or.inl e
        · right
          rw [getD_set_ne false (fun x => e x.symm)] at hj
          exact hj
      refine ⟨by rw [put_size, hI.size], by rw [put_defs, hI.defers], hR, ?_, ?_, ?_⟩
      · intro j hj
        by_cases e : j = i
        · subst e; simp only [if_true]; exact hF
        · simp only [e, if_false]
          exact hE _ _ _ _ hEw (hI.facts j ((hset j hj).resolve_left e))
      · intro j t hj hjt hlt
        by_cases e : j = i
        · subst e
          simp only [if_true]
          rw [put_get, if_pos ⟨by rw [← hdst]; exact hjt, by rw [hI.size]; exact hlt⟩]
        · simp only [e, if_false]
          rw [put_get, if_neg]
          · exact hI.slots j t ((hset j hj).resolve_left e) hjt hlt
          · rintro ⟨h1, _⟩
            exact e (dst_ne hd hjt (by rw [hdst]; exact h1))
      · intro t ht
        rw [put_get, if_neg]
        · exact hI.rest t (fun j hj => ht j (getD_set_true hj))
        · rintro ⟨h1, _⟩
          refine ht i ?_ (by rw [hdst]; exact h1)
          simp [hil]

def inOk (ops : Array Oper) (n : Nat) : Bool := (List.range ops.size).all fun i => match dstOf ops i with | some t => decide (t < n) | none => true
theorem inOk_spec {n : Nat} (h : inOk ops n = true) (j : Nat) (t : Tmp) (hj : dstOf ops j = some t) : t < n := by
  have hjs : j < ops.size := by
    unfold dstOf at hj
    rcases Nat.lt_or_ge j ops.size with h' | h'
    · exact h'
    · rw [Array.getElem?_eq_none h'] at hj; cases hj
  unfold inOk at h
  rw [List.all_eq_true] at h
  have := h j (List.mem_range.2 hjs)
  rw [hj] at this
  simpa using this

/-- an operation that yields its value at once -/
theorem step_value {F : Nat → Value → World → Prop} {E : World → World → Prop} {R : World → Prop} {j : Nat} {o : Oper} {a : Act} {w : World} {v : Value} (hj : ops[j]? = some o)
    (hw : Region.wanted o (yielded ops a.tmps) = true) (hrun : (execOp a.eval o).run P w = .ok (.value v) w) (hR : R w) (hE : E w w) (hF : F j v w) :
    wpOp P ops Q j (fun a' w' => ∃ v, a' = a.put o.dst v ∧ R w' ∧ E w w' ∧ F j v w') a w := by
  unfold wpOp
  rw [hj]
  simp only []
  rw [if_pos hw]
  left
  unfold Oper.wp
  rw [hrun]
  exact ⟨v, rfl, hR, hE, hF⟩
/-- an operation that yields its value and leaves another world -/
theorem step_world {F : Nat → Value → World → Prop} {E : World → World → Prop} {R : World → Prop} {j : Nat} {o : Oper} {a : Act} {w w' : World} {v : Value} (hj : ops[j]? = some o)
    (hw : Region.wanted o (yielded ops a.tmps) = true) (hrun : (execOp a.eval o).run P w = .ok (.value v) w') (hR : R w') (hE : E w w') (hF : F j v w') :
    wpOp P ops Q j (fun a' w' => ∃ v, a' = a.put o.dst v ∧ R w' ∧ E w w' ∧ F j v w') a w := by
  unfold wpOp
  rw [hj]
  simp only []
  rw [if_pos hw]
  left
  unfold Oper.wp
  rw [hrun]
  exact ⟨v, rfl, hR, hE, hF⟩
/-- a call, by its contract -/
theorem step_call {F : Nat → Value → World → Prop} {E : World → World → Prop} {R : World → Prop} {j : Nat} {o : Oper} {a : Act} {w : World} {f : FuncId} {args : Array Value} (hj : ops[j]? = some o)
    (hw : Region.wanted o (yielded ops a.tmps) = true) (hrun : (execOp a.eval o).run P w = .ok (.enter f args) w)
    (hc : Calls P f args w fun e w' => ∃ v, e = .returned v ∧ R w' ∧ E w w' ∧ F j v w') :
    wpOp P ops Q j (fun a' w' => ∃ v, a' = a.put o.dst v ∧ R w' ∧ E w w' ∧ F j v w') a w := by
  unfold wpOp
  rw [hj]
  simp only []
  rw [if_pos hw]
  left
  unfold Oper.wp
  rw [hrun]
  refine hc.mono ?_
  rintro e w' ⟨v, rfl, h⟩
  exact ⟨v, rfl, h⟩

theorem Deps.slot {F : Nat → Value → World → Prop} {o : Oper} {vs : Nat → Value} {a : Act} {w : World} (h : Deps ops F o vs a w) (k : Nat) (t : Tmp)
    (hm : (o.after.toList.any fun e => Region.binds .any e && e.on == k) = true) (ht : dstOf ops k = some t) : F k (vs k) w ∧ a.tmps[t]? = some (vs k) := by
  rw [List.any_eq_true] at hm
  obtain ⟨e, he, hb⟩ := hm
  rw [Bool.and_eq_true, beq_iff_eq] at hb
  have := h e he hb.1
  rw [hb.2] at this
  exact ⟨this.1, this.2 t ht⟩
def freeOk (ops : Array Oper) (t : Tmp) : Bool := (List.range ops.size).all fun i => dstOf ops i != some t
theorem Base.slot {a0 a : Act} (h : Base ops a0 a) (t : Tmp) {v : Value} (hf : freeOk ops t = true) (h0 : a0.tmps[t]? = some v) : a.tmps[t]? = some v := by
  rw [h t ?_, h0]
  intro j hj
  have hjs : j < ops.size := by
    unfold dstOf at hj
    rcases Nat.lt_or_ge j ops.size with h' | h'
    · exact h'
    · rw [Array.getElem?_eq_none h'] at hj; cases hj
  unfold freeOk at hf
  rw [List.all_eq_true] at hf
  have := hf j (List.mem_range.2 hjs)
  rw [hj] at this
  simp at this
theorem eval_tmp {a : Act} {t : Tmp} {v : Value} (h : a.tmps[t]? = some v) : a.eval (.tmp t) = v := by
  simp [Act.eval, h]
theorem wanted_none {o : Oper} {a : Act} (hg : o.guard = none) : Region.wanted o (yielded ops a.tmps) = true := by
  unfold Region.wanted; rw [hg]
theorem wanted_some {o : Oper} {a : Act} {g : Nat} {b : Bool} {t : Tmp} (hg : o.guard = some (g, b)) (ht : dstOf ops g = some t) (h : a.tmps[t]? = some (.bool b)) : Region.wanted o (yielded ops a.tmps) = true := by
  unfold Region.wanted
  rw [hg]
  unfold dstOf at ht
  simp [yielded, ht, h]

/-- THE LAW: a region that draws its order, by one obligation for each operation. -/
theorem wp_region_facts {id : Nat} {a0 : Act} {w0 : World} (hm : P.follows .mixedOrders = true) (F : Nat → Value → World → Prop) (E : World → World → Prop) (R : World → Prop)
    (hb : backOk ops = true) (hd : dstOk ops = true) (hin : inOk ops a0.tmps.size = true) (hE : ∀ w w' j v, E w w' → F j v w → F j v w') (hR : R w0.drew)
    (hs : StepAll P ops Q F E R a0 0 ops.toList) (hfin : ∀ vs w, R w → (∀ j, j < ops.size → F j (vs j) w) → Q .normal (frameEnd ops vs a0) w) : (Code.region id ops true).wp P Q a0 w0 := by
  refine wp_region_any hm ?_
  refine sound hb hd (inOk_spec hin) hE hs hfin _ _ (fun _ => undef) _ _ (by simp) ?_ ?_
  · refine Nat.le_trans List.countP_le_length ?_
    simp
  · have hno : ∀ j, (Array.replicate ops.size false).getD j false = false := by
      intro j
      rw [Array.getD_eq_getD_getElem?, Array.getElem?_replicate]
      split <;> rfl
    refine ⟨rfl, rfl, hR, ?_, ?_, fun _ _ => rfl⟩
    · intro j hj; rw [hno] at hj; cases hj
    · intro j t hj; rw [hno] at hj; cases hj
end
end Facts
end Go.Proofs.YtjiaoppefinljaaGreatDoor.Bkt

/- A region that draws its order, by facts, and by which of its operations have come up: one obligation for each operation. -/
namespace Go.Proofs.YtjiaoppefinljaaGreatDoor.Bkt
namespace Facts
namespace Up

section
variable {P : Program} {ops : Array Oper} {Q : Exit → Act → World → Prop}

def on (listed : Array Bool) (j : Nat) : Bool := listed.getD j false
/-- operation i waits for operation k -/
def waits (ops : Array Oper) (i k : Nat) : Bool := ((ops[i]?).map fun o => o.after.toList.any fun e => Region.binds .any e && e.on == k).getD false
def Closed (ops : Array Oper) (d : Nat → Bool) : Prop := ∀ i k, d i = true → waits ops i k = true → d k = true
def set (d : Nat → Bool) (j : Nat) : Nat → Bool := fun k => k == j || d k

/-- operation j, at whatever state it comes up -/
def Step (P : Program) (ops : Array Oper) (Q : Exit → Act → World → Prop) (F : Nat → Value → World → Prop) (E : World → World → Prop) (R : (Nat → Bool) → World → Prop) (a0 : Act) (j : Nat) (o : Oper) : Prop :=
  ∀ (d : Nat → Bool) (vs : Nat → Value) (a : Act) (w : World), R d w → d j = false → Closed ops d → (∀ k, waits ops j k = true → d k = true) → Deps ops F o vs a w → Base ops a0 a →
    wpOp P ops Q j (fun a' w' => ∃ v, a' = a.put o.dst v ∧ R (set d j) w' ∧ E w w' ∧ F j v w') a w
def StepAll (P : Program) (ops : Array Oper) (Q : Exit → Act → World → Prop) (F : Nat → Value → World → Prop) (E : World → World → Prop) (R : (Nat → Bool) → World → Prop) (a0 : Act) : Nat → List Oper → Prop
  | _, [] => True
  | j, o :: os => Step P ops Q F E R a0 j o ∧ StepAll P ops Q F E R a0 (j + 1) os
theorem StepAll.get {F : Nat → Value → World → Prop} {E : World → World → Prop} {R : (Nat → Bool) → World → Prop} {a0 : Act} : ∀ {j : Nat} {os : List Oper} (_ : StepAll P ops Q F E R a0 j os) {i : Nat} {o : Oper}, os[i]? = some o → Step P ops Q F E R a0 (j + i) o
  | j, [], _, i, o, h => by simp at h
  | j, x :: os, hs, 0, o, h => by
    simp only [List.getElem?_cons_zero, Option.some.injEq] at h
    subst h
    exact hs.1
  | j, x :: os, hs, i + 1, o, h => by
    simp only [List.getElem?_cons_succ] at h
    have := StepAll.get hs.2 h
    rw [show j + (i + 1) = j + 1 + i from by omega]
    exact this

structure Inv (ops : Array Oper) (F : Nat → Value → World → Prop) (R : (Nat → Bool) → World → Prop) (a0 : Act) (listed : Array Bool) (vs : Nat → Value) (a : Act) (w : World) : Prop where
  size : a.tmps.size = a0.tmps.size
  defers : a.defers = a0.defers
  world : R (on listed) w
  closed : Closed ops (on listed)
  facts : ∀ j, listed.getD j false = true → F j (vs j) w
  slots : ∀ j t, listed.getD j false = true → dstOf ops j = some t → t < a0.tmps.size → a.tmps[t]? = some (vs j)
  rest : ∀ t, (∀ j, listed.getD j false = true → dstOf ops j ≠ some t) → a.tmps[t]? = a0.tmps[t]?

theorem waits_spec {i k : Nat} {o : Oper} (ho : ops[i]? = some o) (h : waits ops i k = true) : ∃ e ∈ o.after.toList, Region.binds .any e = true ∧ e.on = k := by
  unfold waits at h
  rw [ho] at h
  simp only [Option.map_some, Option.getD_some, List.any_eq_true, Bool.and_eq_true, beq_iff_eq] at h
  exact h

theorem sound {F : Nat → Value → World → Prop} {E : World → World → Prop} {R : (Nat → Bool) → World → Prop} {a0 : Act} (hb : backOk ops = true) (hd : dstOk ops = true)
    (hin : ∀ j t, dstOf ops j = some t → t < a0.tmps.size) (hE : ∀ w w' j v, E w w' → F j v w → F j v w')
    (hs : StepAll P ops Q F E R a0 0 ops.toList) (hfin : ∀ d vs w, (∀ j, j < ops.size → d j = true) → R d w → (∀ j, j < ops.size → F j (vs j) w) → Q .normal (frameEnd ops vs a0) w) :
    ∀ (fuel : Nat) (listed : Array Bool) (vs : Nat → Value) (a : Act) (w : World), listed.size = ops.size → (listed.toList.countP (fun b => !b)) ≤ fuel → Inv ops F R a0 listed vs a w → wpAny P .any ops Q fuel listed a w := by
  have hdone : ∀ (listed : Array Bool) (vs : Nat → Value) (a : Act) (w : World), listed.size = ops.size → Inv ops F R a0 listed vs a w → Region.ready .any ops listed = [] → Q .normal a w := by
    intro listed vs a w hsz hI hr
    have hall := all_listed hb hsz hr
    have hI2 : Facts.Inv ops F (fun _ => True) a0 listed vs a w := ⟨hI.size, hI.defers, trivial, hI.facts, hI.slots, hI.rest⟩
    rw [hI2.frame hd hall]
    exact hfin _ vs w hall hI.world (fun j hj => hI.facts j (hall j hj))
  intro fuel
  induction fuel with
  | zero =>
    intro listed vs a w hsz hc hI
    have hr : Region.ready .any ops listed = [] := by
      cases hr : Region.ready .any ops listed with
      | nil => rfl
      | cons i is =>
        have hm : i ∈ Region.ready .any ops listed := by rw [hr]; simp
        obtain ⟨h0, o, ho, _⟩ := mem_ready.1 hm
        have hi : i < listed.size := by rw [hsz]; exact (Array.getElem?_eq_some_iff.1 ho).1
        have hz : listed.toList.countP (fun b => !b) = 0 := by omega
        rw [List.countP_eq_zero] at hz
        have := hz listed[i] (by simp)
        rw [Array.getD_eq_getD_getElem?, Array.getElem?_eq_getElem hi] at h0
        simp at h0
        simp [h0] at this
    exact ⟨hr, hdone listed vs a w hsz hI hr⟩
  | succ fuel ih =>
    intro listed vs a w hsz hc hI
    refine ⟨hdone listed vs a w hsz hI, fun i hi => ?_⟩
    obtain ⟨h0, o, ho, hdeps⟩ := mem_ready.1 hi
    have hil : i < listed.size := by rw [hsz]; exact (Array.getElem?_eq_some_iff.1 ho).1
    have hst := StepAll.get hs (i := i) (o := o) (by simpa using ho)
    rw [Nat.zero_add] at hst
    have hdst : dstOf ops i = o.dst := by unfold dstOf; rw [ho]; rfl
    have hD : Deps ops F o vs a w := by
      intro e he hbind
      have hl := hdeps e (by simpa using he) hbind
      exact ⟨hI.facts _ hl, fun t ht => hI.slots _ t hl ht (hin _ _ ht)⟩
    have hB : Base ops a0 a := fun t ht => hI.rest t (fun j _ => ht j)
    have hfalse : listed.getD i false = false := by
      rw [Array.getD_eq_getD_getElem?, Array.getElem?_eq_getElem hil] at h0 ⊢
      exact h0
    have hW : ∀ k, waits ops i k = true → on listed k = true := by
      intro k hk
      obtain ⟨e, he, hbe, rfl⟩ := waits_spec ho hk
      exact hdeps e (by simpa using he) hbe
    have hset : on (listed.setIfInBounds i true) = set (on listed) i := by
      funext k
      unfold on set
      by_cases e : k = i
      · subst e; simp [hil]
      · rw [getD_set_ne false (fun x => e x.symm), beq_false_of_ne e, Bool.false_or]
    refine wpOp_mono ?_ (hst (on listed) vs a w hI.world hfalse hI.closed hW hD hB)
    rintro a' w' ⟨v, rfl, hR, hEw, hF⟩
    refine ih (listed.setIfInBounds i true) (fun j => if j = i then v else vs j) _ w' (by simpa using hsz) ?_ ?_
    · have : (listed.setIfInBounds i true).toList.countP (fun b => !b) + 1 = listed.toList.countP (fun b => !b) := by
        rw [Array.toList_setIfInBounds]
        have hil' : i < listed.toList.length := by simpa using hil
        have hx : listed.toList[i] = false := by
          rw [Array.getD_eq_getD_getElem?, Array.getElem?_eq_getElem hil] at hfalse
          simpa using hfalse
        rw [List.countP_set hil', hx]
        have hpos : 0 < listed.toList.countP (fun b => !b) := by
          rw [List.countP_pos_iff]
          exact ⟨false, by rw [← hx]; exact List.getElem_mem hil', rfl⟩
        simp only [Bool.not_false, if_true, Bool.not_true, Bool.false_eq_true, if_false]
        omega
      omega
    · have hor : ∀ j, (listed.setIfInBounds i true).getD j false = true → j = i ∨ listed.getD j false = true := by
        intro j hj
        by_cases e : j = i
        · exact Or.inl e
        · right
          rw [getD_set_ne false (fun x => e x.symm)] at hj
          exact hj
      refine ⟨by rw [put_size, hI.size], by rw [put_defs, hI.defers], by rw [hset]; exact hR, ?_, ?_, ?_, ?_⟩
      · rw [hset]
        intro x k hx hk
        unfold set at hx ⊢
        rw [Bool.or_eq_true] at hx ⊢
        right
        rcases hx with hx | hx
        · rw [beq_iff_eq] at hx
          subst hx
          exact hW k hk
        · exact hI.closed x k hx hk
      · intro j hj
        by_cases e : j = i
        · subst e; simp only [if_true]; exact hF
        · simp only [e, if_false]
          exact hE _ _ _ _ hEw (hI.facts j ((hor j hj).resolve_left e))
      · intro j t hj hjt hlt
        by_cases e : j = i
        · subst e
          simp only [if_true]
          rw [put_get, if_pos ⟨by rw [← hdst]; exact hjt, by rw [hI.size]; exact hlt⟩]
        · simp only [e, if_false]
          rw [put_get, if_neg]
          · exact hI.slots j t ((hor j hj).resolve_left e) hjt hlt
          · rintro ⟨h1, _⟩
            exact e (dst_ne hd hjt (by rw [hdst]; exact h1))
      · intro t ht
        rw [put_get, if_neg]
        · exact hI.rest t (fun j hj => ht j (getD_set_true hj))
        · rintro ⟨h1, _⟩
          refine ht i ?_ (by rw [hdst]; exact h1)
          simp [hil]

/-- an operation that yields no value (a store) -/
theorem step_skip {F : Nat → Value → World → Prop} {E : World → World → Prop} {R : World → Prop} {j : Nat} {o : Oper} {a : Act} {w w' : World} (hj : ops[j]? = some o)
    (hw : Region.wanted o (yielded ops a.tmps) = true) (hd : o.dst = none) (hrun : (execOp a.eval o).run P w = .ok .skip w') (hR : R w') (hE : E w w') (hF : ∀ v, F j v w') :
    wpOp P ops Q j (fun a' w' => ∃ v, a' = a.put o.dst v ∧ R w' ∧ E w w' ∧ F j v w') a w := by
  unfold wpOp
  rw [hj]
  simp only []
  rw [if_pos hw]
  left
  unfold Oper.wp
  rw [hrun]
  exact ⟨undef, by rw [hd], hR, hE, hF _⟩

/-- THE LAW -/
theorem wp_region_facts {id : Nat} {a0 : Act} {w0 : World} (hm : P.follows .mixedOrders = true) (F : Nat → Value → World → Prop) (E : World → World → Prop) (R : (Nat → Bool) → World → Prop)
    (hb : backOk ops = true) (hd : dstOk ops = true) (hin : inOk ops a0.tmps.size = true) (hE : ∀ w w' j v, E w w' → F j v w → F j v w') (hR : R (fun _ => false) w0.drew)
    (hs : StepAll P ops Q F E R a0 0 ops.toList) (hfin : ∀ d vs w, (∀ j, j < ops.size → d j = true) → R d w → (∀ j, j < ops.size → F j (vs j) w) → Q .normal (frameEnd ops vs a0) w) : (Code.region id ops true).wp P Q a0 w0 := by
  refine wp_region_any hm ?_
  have hno : ∀ j, (Array.replicate ops.size false).getD j false = false := by
    intro j
    rw [Array.getD_eq_getD_getElem?, Array.getElem?_replicate]
    split <;> rfl
  refine sound hb hd (inOk_spec hin) hE hs hfin _ _ (fun _ => undef) _ _ (by simp) ?_ ?_
  · refine Nat.le_trans List.countP_le_length ?_
    simp
  · refine ⟨rfl, rfl, ?_, ?_, ?_, ?_, fun _ _ => rfl⟩
    · have : on (Array.replicate ops.size false) = fun _ => false := funext hno
      rw [this]; exact hR
    · intro i k hi; unfold on at hi; rw [hno] at hi; cases hi
    · intro j hj; rw [hno] at hj; cases hj
    · intro j t hj; rw [hno] at hj; cases hj
end
end Up
end Facts
end Go.Proofs.YtjiaoppefinljaaGreatDoor.Bkt
