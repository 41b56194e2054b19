/- A region that draws its order and ends in one operation that waits for all others (a store): by facts: one obligation for each operation; G holds ahead of the last one, D behind it. -/
import Derived.Test.YtpfogfglkknmoaaRegion
namespace Go.Proofs.Ytpfogfglkknmoaa
namespace Facts
namespace Tail

section
variable {P : Program} {ops : Array Oper} {Q : Exit → Act → World → Prop}

def Step (P : Program) (ops : Array Oper) (Q : Exit → Act → World → Prop) (F : Nat → Value → World → Prop) (G D : World → Prop) (m : Nat) (a0 : Act) (j : Nat) (o : Oper) : Prop :=
  ∀ (vs : Nat → Value) (a : Act) (w : World), G w → Deps ops F o vs a w → Base ops a0 a →
    wpOp P ops Q j (fun a' w' => ∃ v, a' = a.put o.dst v ∧ (if j = m then D w' else G w') ∧ True ∧ F j v w') a w
def StepAll (P : Program) (ops : Array Oper) (Q : Exit → Act → World → Prop) (F : Nat → Value → World → Prop) (G D : World → Prop) (m : Nat) (a0 : Act) : Nat → List Oper → Prop
  | _, [] => True
  | j, o :: os => Step P ops Q F G D m a0 j o ∧ StepAll P ops Q F G D m a0 (j + 1) os
theorem StepAll.get {F : Nat → Value → World → Prop} {G D : World → Prop} {m : Nat} {a0 : Act} : ∀ {j : Nat} {os : List Oper} (_ : StepAll P ops Q F G D m a0 j os) {i : Nat} {o : Oper}, os[i]? = some o → Step P ops Q F G D m a0 (j + i) o
  | j, [], _, i, o, h => by simp at h
  | j, x :: os, hs, 0, o, h => by
    simp only [List.getElem?_cons_zero, Option.some.injEq] at h
    subst h
    exact hs.1
  | j, x :: os, hs, i + 1, o, h => by
    simp only [List.getElem?_cons_succ] at h
    have := StepAll.get hs.2 h
    rw [show j + (i + 1) = j + 1 + i from by omega]
    exact this
/-- the last one waits for all others, at once or through one between -/
def lastOk (ops : Array Oper) (m : Nat) : Bool := decide (m < ops.size) && (List.range ops.size).all fun i => decide (i = m) || ((ops[m]?).map fun o => o.after.toList.any fun e => Region.binds .any e && (e.on == i || ((ops[e.on]?).map fun o' => o'.after.toList.any fun e' => Region.binds .any e' && e'.on == i).getD false)).getD false
theorem lastOk_spec {m : Nat} (h : lastOk ops m = true) : m < ops.size ∧ ∀ i, i < ops.size → i ≠ m → ∀ o, ops[m]? = some o → ∃ e ∈ o.after.toList, Region.binds .any e = true ∧ (e.on = i ∨ ∃ o', ops[e.on]? = some o' ∧ ∃ e' ∈ o'.after.toList, Region.binds .any e' = true ∧ e'.on = i) := by
  unfold lastOk at h
  rw [Bool.and_eq_true, decide_eq_true_eq, List.all_eq_true] at h
  refine ⟨h.1, fun i hi hne o ho => ?_⟩
  have h1 := h.2 i (List.mem_range.2 hi)
  rw [ho] at h1
  simp only [hne, decide_false, Bool.false_or, Option.map_some, Option.getD_some, List.any_eq_true] at h1
  obtain ⟨e, he, hb⟩ := h1
  rw [Bool.and_eq_true, Bool.or_eq_true, beq_iff_eq] at hb
  refine ⟨e, he, hb.1, ?_⟩
  rcases hb.2 with h2 | h2
  · exact Or.inl h2
  · right
    cases hq : ops[e.on]? with
    | none => rw [hq] at h2; cases h2
    | some o' =>
      rw [hq] at h2
      simp only [Option.map_some, Option.getD_some, List.any_eq_true] at h2
      obtain ⟨e', he', hb'⟩ := h2
      rw [Bool.and_eq_true, beq_iff_eq] at hb'
      exact ⟨o', rfl, e', he', hb'.1, hb'.2⟩

structure Inv (ops : Array Oper) (F : Nat → Value → World → Prop) (G D : World → Prop) (m : Nat) (a0 : Act) (listed : Array Bool) (vs : Nat → Value) (a : Act) (w : World) : Prop where
  size : a.tmps.size = a0.tmps.size
  defers : a.defers = a0.defers
  world : if listed.getD m false = true then D w else G w
  closed : ∀ i o, listed.getD i false = true → ops[i]? = some o → ∀ e ∈ o.after.toList, Region.binds .any e = true → listed.getD e.on false = true
  facts : ∀ j, listed.getD j false = true → F j (vs j) w
  slots : ∀ j t, listed.getD j false = true → dstOf ops j = some t → t < a0.tmps.size → a.tmps[t]? = some (vs j)
  rest : ∀ t, (∀ j, listed.getD j false = true → dstOf ops j ≠ some t) → a.tmps[t]? = a0.tmps[t]?

/-- all have come up: the frame is known -/
theorem Inv.frame {F : Nat → Value → World → Prop} {G D : World → Prop} {m : Nat} {a0 a : Act} {listed : Array Bool} {vs : Nat → Value} {w : World} (hd : dstOk ops = true)
    (h : Inv ops F G D m a0 listed vs a w) (hall : ∀ j, j < ops.size → listed.getD j false = true) : a = frameEnd ops vs a0 := by
  have hl : ∀ (i j : Nat) (t : Tmp), ops.toList.zipIdx[i]?.bind (fun (p : Oper × Nat) => p.1.dst) = some t → ops.toList.zipIdx[j]?.bind (fun (p : Oper × Nat) => p.1.dst) = some t → i = j := by
    intro i j t hi hj
    rw [zip_get] at hi hj
    refine dst_ne hd (t := t) ?_ ?_
    · unfold dstOf; cases hx : ops[i]? <;> simp [hx] at hi ⊢; exact hi
    · unfold dstOf; cases hx : ops[j]? <;> simp [hx] at hj ⊢; exact hj
  obtain ⟨f1, f2, f3, f4⟩ := frame_fold vs a0 ops.toList.zipIdx hl
  have ht : a.tmps = (frameEnd ops vs a0).tmps := by
    apply Array.ext_getElem?
    intro t
    unfold frameEnd
    by_cases hex : ∃ j, dstOf ops j = some t
    · obtain ⟨j, hj⟩ := hex
      have hjs : j < ops.size := by
        unfold dstOf at hj
        rcases Nat.lt_or_ge j ops.size with h' | h'
        · exact h'
        · rw [Array.getElem?_eq_none h'] at hj; cases hj
      by_cases hlt : t < a0.tmps.size
      · rw [h.slots j t (hall j hjs) hj hlt]
        have hm : (ops[j], j) ∈ ops.toList.zipIdx := by
          apply List.mem_of_getElem? (i := j)
          rw [zip_get, Array.getElem?_eq_getElem hjs]; rfl
        have hdd : ops[j].dst = some t := by
          unfold dstOf at hj
          rw [Array.getElem?_eq_getElem hjs] at hj
          exact hj
        exact (f4 t (ops[j], j) hm hdd hlt).symm
      · rw [Array.getElem?_eq_none (by rw [h.size]; omega), Array.getElem?_eq_none (by rw [f1]; omega)]
    · rw [h.rest t (fun j _ hj => hex ⟨j, hj⟩)]
      rw [f3 t]
      intro p hp hpt
      obtain ⟨i, hi⟩ := List.getElem?_of_mem hp
      rw [zip_get] at hi
      refine hex ⟨i, ?_⟩
      unfold dstOf
      cases hx : ops[i]? with
      | none => rw [hx] at hi; cases hi
      | some o =>
        rw [hx] at hi
        simp only [Option.map_some, Option.some.injEq] at hi
        subst hi
        exact hpt
  have hdef : a.defers = (frameEnd ops vs a0).defers := by rw [h.defers]; exact f2.symm
  cases a with
  | mk x y =>
    revert ht hdef
    generalize frameEnd ops vs a0 = b
    cases b with
    | mk x' y' => intro h1 h2; simp only at h1 h2; rw [h1, h2]

theorem sound {F : Nat → Value → World → Prop} {G D : World → Prop} {m : Nat} {a0 : Act} (hm : lastOk ops m = true) (hb : backOk ops = true) (hd : dstOk ops = true)
    (hin : ∀ j t, dstOf ops j = some t → t < a0.tmps.size) (hE : ∀ w w' j v, F j v w → F j v w')
    (hs : StepAll P ops Q F G D m a0 0 ops.toList) (hfin : ∀ vs w, D w → (∀ j, j < ops.size → F j (vs j) w) → Q .normal (frameEnd ops vs a0) w) :
    ∀ (fuel : Nat) (listed : Array Bool) (vs : Nat → Value) (a : Act) (w : World), listed.size = ops.size → (listed.toList.countP (fun b => !b)) ≤ fuel → Inv ops F G D m a0 listed vs a w → wpAny P .any ops Q fuel listed a w := by
  have hdone : ∀ (listed : Array Bool) (vs : Nat → Value) (a : Act) (w : World), listed.size = ops.size → Inv ops F G D m a0 listed vs a w → Region.ready .any ops listed = [] → Q .normal a w := by
    intro listed vs a w hsz hI hr
    have hall := all_listed hb hsz hr
    rw [hI.frame hd hall]
    have hml := hall m (lastOk_spec hm).1
    have hwd := hI.world
    rw [if_pos hml] at hwd
    exact hfin vs w hwd (fun j hj => hI.facts j (hall j hj))
  intro fuel
  induction fuel with
  | zero =>
    intro listed vs a w hsz hc hI
    have hr : Region.ready .any ops listed = [] := by
      cases hr : Region.ready .any ops listed with
      | nil => rfl
      | cons i is =>
        have hm : i ∈ Region.ready .any ops listed := by rw [hr]; simp
        obtain ⟨h0, o, ho, _⟩ := mem_ready.1 hm
        have hi : i < listed.size := by rw [hsz]; exact (Array.getElem?_eq_some_iff.1 ho).1
        have hz : listed.toList.countP (fun b => !b) = 0 := by omega
        rw [List.countP_eq_zero] at hz
        have := hz listed[i] (by simp)
        rw [Array.getD_eq_getD_getElem?, Array.getElem?_eq_getElem hi] at h0
        simp at h0
        simp [h0] at this
    exact ⟨hr, hdone listed vs a w hsz hI hr⟩
  | succ fuel ih =>
    intro listed vs a w hsz hc hI
    refine ⟨hdone listed vs a w hsz hI, fun i hi => ?_⟩
    obtain ⟨h0, o, ho, hdeps⟩ := mem_ready.1 hi
    have hil : i < listed.size := by rw [hsz]; exact (Array.getElem?_eq_some_iff.1 ho).1
    have hst := StepAll.get hs (i := i) (o := o) (by simpa using ho)
    rw [Nat.zero_add] at hst
    have hdst : dstOf ops i = o.dst := by unfold dstOf; rw [ho]; rfl
    have hD : Deps ops F o vs a w := by
      intro e he hbind
      have hl := hdeps e (by simpa using he) hbind
      exact ⟨hI.facts _ hl, fun t ht => hI.slots _ t hl ht (hin _ _ ht)⟩
    have hB : Base ops a0 a := fun t ht => hI.rest t (fun j _ => ht j)
    have hnm : listed.getD m false = false := by
      cases hl : listed.getD m false with
      | false => rfl
      | true =>
        exfalso
        have hi0 : listed.getD i false = false := by
          rw [Array.getD_eq_getD_getElem?, Array.getElem?_eq_getElem hil] at h0 ⊢
          exact h0
        by_cases e : i = m
        · subst e; rw [hl] at hi0; cases hi0
        · obtain ⟨hms, hsp⟩ := lastOk_spec hm
          have hom : ops[m]? = some ops[m] := Array.getElem?_eq_getElem hms
          obtain ⟨ed, he, hbd, hon⟩ := hsp i (by omega) e _ hom
          have := hI.closed m _ hl hom ed he hbd
          rcases hon with hon | ⟨o', ho', ed', he', hbd', hon⟩
          · rw [hon, hi0] at this
            cases this
          · have h2 := hI.closed _ _ this ho' ed' he' hbd'
            rw [hon, hi0] at h2
            cases h2
    have hG : G w := by
      have := hI.world
      rw [hnm] at this
      simpa using this
    refine wpOp_mono ?_ (hst vs a w hG hD hB)
    rintro a' w' ⟨v, rfl, hR, -, hF⟩
    have hfalse : listed.getD i false = false := by
      rw [Array.getD_eq_getD_getElem?, Array.getElem?_eq_getElem hil] at h0 ⊢
      exact h0
    refine ih (listed.setIfInBounds i true) (fun j => if j = i then v else vs j) _ w' (by simpa using hsz) ?_ ?_
    · have : (listed.setIfInBounds i true).toList.countP (fun b => !b) + 1 = listed.toList.countP (fun b => !b) := by
        rw [Array.toList_setIfInBounds]
        have hil' : i < listed.toList.length := by simpa using hil
        have hx : listed.toList[i] = false := by
          rw [Array.getD_eq_getD_getElem?, Array.getElem?_eq_getElem hil] at hfalse
          simpa using hfalse
        rw [List.countP_set hil', hx]
        have hpos : 0 < listed.toList.countP (fun b => !b) := by
          rw [List.countP_pos_iff]
          exact ⟨false, by rw [← hx]; exact List.getElem_mem hil', rfl⟩
        simp only [Bool.not_false, if_true, Bool.not_true, Bool.false_eq_true, if_false]
        omega
      omega
    · have hset : ∀ j, (listed.setIfInBounds i true).getD j false = true → j = i ∨ listed.getD j false = true := by
        intro j hj
        by_cases e : j = i
        · exact Or.inl e
        · right
          rw [getD_set_ne false (fun x => e x.symm)] at hj
          exact hj
      refine ⟨by rw [put_size, hI.size], by rw [put_defs, hI.defers], ?_, ?_, ?_, ?_, ?_⟩
      · by_cases e : i = m
        · subst e
          rw [if_pos rfl] at hR
          rw [if_pos (by simp [hil])]
          exact hR
        · rw [if_neg e] at hR
          rw [if_neg (by rw [getD_set_ne false e, hnm]; simp)]
          exact hR
      · intro k ok hk hok ed he hbd
        have hl : listed.getD ed.on false = true := by
          rcases hset k hk with rfl | hk'
          · rw [ho] at hok
            cases hok
            exact hdeps ed (by simpa using he) hbd
          · exact hI.closed k ok hk' hok ed he hbd
        by_cases e : i = ed.on
        · subst e; simp [hil]
        · rw [getD_set_ne false e]; exact hl
      · intro j hj
        by_cases e : j = i
        · subst e; simp only [if_true]; exact hF
        · simp only [e, if_false]
          exact hE _ _ _ _ (hI.facts j ((hset j hj).resolve_left e))
      · intro j t hj hjt hlt
        by_cases e : j = i
        · subst e
          simp only [if_true]
          rw [put_get, if_pos ⟨by rw [← hdst]; exact hjt, by rw [hI.size]; exact hlt⟩]
        · simp only [e, if_false]
          rw [put_get, if_neg]
          · exact hI.slots j t ((hset j hj).resolve_left e) hjt hlt
          · rintro ⟨h1, _⟩
            exact e (dst_ne hd hjt (by rw [hdst]; exact h1))
      · intro t ht
        rw [put_get, if_neg]
        · exact hI.rest t (fun j hj => ht j (getD_set_true hj))
        · rintro ⟨h1, _⟩
          refine ht i ?_ (by rw [hdst]; exact h1)
          simp [hil]

/-- an operation that yields its value at once -/
theorem step_value {F : Nat → Value → World → Prop} {R : World → Prop} {j : Nat} {o : Oper} {a : Act} {w : World} {v : Value} (hj : ops[j]? = some o)
    (hw : Region.wanted o (yielded ops a.tmps) = true) (hrun : (execOp a.eval o).run P w = .ok (.value v) w) (hR : R w) (hF : F j v w) :
    wpOp P ops Q j (fun a' w' => ∃ v, a' = a.put o.dst v ∧ R w' ∧ True ∧ F j v w') a w := by
  unfold wpOp
  rw [hj]
  simp only []
  rw [if_pos hw]
  left
  unfold Oper.wp
  rw [hrun]
  exact ⟨v, rfl, hR, trivial, hF⟩
/-- an operation that yields its value and leaves another world -/
theorem step_world {F : Nat → Value → World → Prop} {R : World → Prop} {j : Nat} {o : Oper} {a : Act} {w w' : World} {v : Value} (hj : ops[j]? = some o)
    (hw : Region.wanted o (yielded ops a.tmps) = true) (hrun : (execOp a.eval o).run P w = .ok (.value v) w') (hR : R w') (hF : F j v w') :
    wpOp P ops Q j (fun a' w' => ∃ v, a' = a.put o.dst v ∧ R w' ∧ True ∧ F j v w') a w := by
  unfold wpOp
  rw [hj]
  simp only []
  rw [if_pos hw]
  left
  unfold Oper.wp
  rw [hrun]
  exact ⟨v, rfl, hR, trivial, hF⟩
/-- a call, by its contract -/
theorem step_call {F : Nat → Value → World → Prop} {R : World → Prop} {j : Nat} {o : Oper} {a : Act} {w : World} {f : FuncId} {args : Array Value} (hj : ops[j]? = some o)
    (hw : Region.wanted o (yielded ops a.tmps) = true) (hrun : (execOp a.eval o).run P w = .ok (.enter f args) w)
    (hc : Calls P f args w fun e w' => ∃ v, e = .returned v ∧ R w' ∧ True ∧ F j v w') :
    wpOp P ops Q j (fun a' w' => ∃ v, a' = a.put o.dst v ∧ R w' ∧ True ∧ F j v w') a w := by
  unfold wpOp
  rw [hj]
  simp only []
  rw [if_pos hw]
  left
  unfold Oper.wp
  rw [hrun]
  refine hc.mono ?_
  rintro e w' ⟨v, rfl, h⟩
  exact ⟨v, rfl, h⟩


/-- a store: no value -/
theorem step_skip {F : Nat → Value → World → Prop} {R : World → Prop} {j : Nat} {o : Oper} {a : Act} {w w' : World} (hj : ops[j]? = some o) (hd : o.dst = none)
    (hw : Region.wanted o (yielded ops a.tmps) = true) (hrun : (execOp a.eval o).run P w = .ok .skip w') (hR : R w') (hF : F j undef w') :
    wpOp P ops Q j (fun a' w' => ∃ v, a' = a.put o.dst v ∧ R w' ∧ True ∧ F j v w') a w := by
  unfold wpOp
  rw [hj]
  simp only []
  rw [if_pos hw]
  left
  unfold Oper.wp
  rw [hrun]
  exact ⟨undef, by rw [hd], hR, trivial, hF⟩

/-- THE LAW: a region that draws its order and ends in one operation that waits for all. -/
theorem wp_region_facts {id : Nat} {a0 : Act} {w0 : World} (hmx : P.follows .mixedOrders = true) (F : Nat → Value → World → Prop) (G D : World → Prop) (m : Nat) (hm : lastOk ops m = true)
    (hb : backOk ops = true) (hd : dstOk ops = true) (hin : inOk ops a0.tmps.size = true) (hE : ∀ w w' j v, F j v w → F j v w') (hG : G w0.drew)
    (hs : StepAll P ops Q F G D m a0 0 ops.toList) (hfin : ∀ vs w, D w → (∀ j, j < ops.size → F j (vs j) w) → Q .normal (frameEnd ops vs a0) w) : (Code.region id ops true).wp P Q a0 w0 := by
  refine wp_region_any hmx ?_
  refine sound hm hb hd (inOk_spec hin) hE hs hfin _ _ (fun _ => undef) _ _ (by simp) ?_ ?_
  · refine Nat.le_trans List.countP_le_length ?_
    simp
  · have hno : ∀ j, (Array.replicate ops.size false).getD j false = false := by
      intro j
      rw [Array.getD_eq_getD_getElem?, Array.getElem?_replicate]
      split <;> rfl
    refine ⟨rfl, rfl, by rw [hno]; simpa using hG, ?_, ?_, ?_, fun _ _ => rfl⟩
    · intro i o hi; rw [hno] at hi; cases hi
    · intro j hj; rw [hno] at hj; cases hj
    · intro j t hj; rw [hno] at hj; cases hj
end
end Tail
end Facts
end Go.Proofs.Ytpfogfglkknmoaa
