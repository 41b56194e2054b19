/- What a walk is about: temporaries, calls that wait; control. -/
import Derived.Test.YtjiaoppefinljaaGreatDoorKe
import Derived.RangeFuncLeaves
import Derived.OrdersIn
import Derived.Scope
set_option linter.unusedVariables false
set_option linter.unusedSimpArgs false
set_option linter.unusedSectionVars false
namespace Go.Proofs.YtjiaoppefinljaaGreatDoor.Ab
open Go
variable {P : Program} {gl : Nat → Option AV} {F : Nat → Prop} {w0 : World} {ρ ρ' : Rho} {σ σ' : St} {w w' : World} {n : Nat} {ts : Tr AV}

/-! ### Fences without walls -/
def Wd (o : Option Nat) : Fence := { fn := fun _ => True, depth := none, alive := false, round := o }
theorem wd_wide : Wd none = Fence.wide := rfl
theorem wd_round (o : Option Nat) (l : Nat) : (Wd o).inRound l = Wd (some l) := rfl
theorem wd_calls {o : Option Nat} {n : Nat} {f : FuncId} {args : Array Value} {w : World} {R : Ending → World → Prop} (h : CallsIn (Wd none) n P f args w R) : CallsIn (Wd o) n P f args w R := h
theorem wd_depth {o : Option Nat} {p : Prop} : (Wd o).depth.isSome = true → p := fun h => by cases h

section
variable {Fc : Fence} {m : Nat} {Q : Exit → Act → World → Prop} {a : Act}
theorem stepR_scope' {b : Frame} {k : List Item} {cs : List Frame} {c : Code} : step P (lone (b.atR a (.code (.scope c) :: k)) cs w) = .next (lone (b.atR a (.code c :: .inScope c :: k)) cs w) :=
  step_lone_go (by simp [stepG, stepG.exec, Frame.atR])
theorem stepR_inScope' {b : Frame} {k : List Item} {cs : List Frame} {c : Code} : step P (lone (b.atR a (.inScope c :: k)) cs w) = .next (lone (b.atR a k) cs w) :=
  step_lone_go (by simp [stepG, stepG.exec, Frame.atR])
theorem wpIn_scope {c : Code} (h : c.wpIn Fc m P (Exit.noGoto Q) a w) : (Code.scope c).wpIn Fc m P Q a w := by
  intro b k cs hro hb hr
  have h0 : (lone (b.atR a (.code (.scope c) :: k)) cs w).fenced P Fc := fenced_calm hb hr rfl
  obtain ⟨e, a₁, w₁, hq, harr⟩ := h b (.inScope c :: k) cs hro hb hr
  cases e with
  | normal => exact ⟨.normal, a₁, w₁, hq, .head h0 stepR_scope' (StepsIn.trans harr (.one (fenced_calm hb hr rfl) stepR_inScope'))⟩
  | exit id =>
    have hx : exitTo id (.inScope c :: k) = exitTo id k := by simp [exitTo]
    exact ⟨.exit id, a₁, w₁, hq, fun k' hk => .head h0 stepR_scope' (harr.1 k' (by rw [hx]; exact hk)),
      fun hr' hk => let ⟨k₁, h1, h2⟩ := harr.2 hr' (by rw [hx]; exact hk); ⟨k₁, h1, .head h0 stepR_scope' h2⟩⟩
  | goto l => exact hq.elim
  | ret => exact ⟨_, a₁, w₁, hq, .of_steps (.one h0 stepR_scope') harr⟩
  | panic ch => exact ⟨_, a₁, w₁, hq, .of_steps (.one h0 stepR_scope') harr⟩
  | outgrown => exact ⟨_, a₁, w₁, hq, .of_steps (.one h0 stepR_scope') harr⟩
/-- a loop, from its body on -/
def LoopWp (Fc : Fence) (m : Nat) (P : Program) (c : Code) (Q : Exit → Act → World → Prop) (a : Act) (w : World) : Prop :=
  ∀ (b : Frame) (k : List Item) (cs : List Frame), b.roundOf = Fc.round → Fc.fn b.fn → Fc.room (cs.length + 1 + m) →
    ∃ e a' w', Q e a' w' ∧ ArrivesIn (Machine.fenced P Fc) P (lone (b.atR a (.code c :: .inLoop c :: k)) cs w) b k cs e a' w'
theorem LoopWp.wpIn {c : Code} (h : LoopWp Fc m P c Q a w) : (Code.loop c).wpIn Fc m P Q a w := by
  intro b k cs hro hb hr
  obtain ⟨e, a', w', hq, harr⟩ := h b k cs hro hb hr
  exact ⟨e, a', w', hq, .of_steps (.one (fenced_calm hb hr rfl) stepR_loop) harr⟩
theorem loopWp_once {c : Code} (h : c.wpIn Fc m P (Exit.then (LoopWp Fc m P c Q) Q) a w) : LoopWp Fc m P c Q a w := by
  intro b k cs hro hb hr
  obtain ⟨e, a₁, w₁, hq, harr⟩ := h b (.inLoop c :: k) cs hro hb hr
  cases e with
  | normal =>
    obtain ⟨e₂, a₂, w₂, hq₂, harr₂⟩ := hq b k cs hro hb hr
    exact ⟨e₂, a₂, w₂, hq₂, .of_steps (StepsIn.trans harr (.one (fenced_calm hb hr rfl) stepR_inLoop)) harr₂⟩
  | exit id => exact ⟨_, a₁, w₁, hq, .pass (x := .inLoop c) rfl (fun _ _ => .inl (by simp)) harr⟩
  | goto l => exact ⟨_, a₁, w₁, hq, .pass (x := .inLoop c) rfl (fun _ _ => .inl (by simp)) harr⟩
  | ret => exact ⟨_, a₁, w₁, hq, .pass (x := .inLoop c) rfl (fun _ _ => .inl (by simp)) harr⟩
  | panic ch => exact ⟨_, a₁, w₁, hq, .pass (x := .inLoop c) rfl (fun _ _ => .inl (by simp)) harr⟩
  | outgrown => exact ⟨_, a₁, w₁, hq, .pass (x := .inLoop c) rfl (fun _ _ => .inl (by simp)) harr⟩
/-- of a loop: from its body on; of other code: as it stands -/
def wpS (Fc : Fence) (m : Nat) (P : Program) (c : Code) (Q : Exit → Act → World → Prop) (a : Act) (w : World) : Prop :=
  match c with
  | .loop c => LoopWp Fc m P c Q a w
  | c => c.wpIn Fc m P Q a w
theorem wpS.wpIn {c : Code} (h : wpS Fc m P c Q a w) : c.wpIn Fc m P Q a w := by
  cases c with
  | loop c => exact LoopWp.wpIn h
  | _ => exact h
end

/-! ### Temporaries -/
theorem ev_put (ts : Tr AV) (d t : Nat) (v : AV) : X.ev (Tr.put (some v) (keyOf d) ts) (.t (keyOf t)) = if t = d then v else X.ev ts (.t (keyOf t)) := by
  simp only [X.ev, get_put_key]
  by_cases e : t = d
  · simp only [e, if_true]
  · simp only [e, if_false]
theorem TR.put {tmps : Array Value} (h : TR ρ ts tmps) {d : Nat} {v : AV} {u : Value} (hv : VR ρ v u) : TR ρ (Tr.put (some v) (keyOf d) ts) (tmps.setIfInBounds d u) := by
  intro t ht
  have ht' : t < tmps.size := by simpa using ht
  rw [ev_put]
  by_cases e : t = d
  · subst e
    rw [if_pos rfl]
    simpa [Array.getD_eq_getD_getElem?, ht'] using hv
  · rw [if_neg e]
    have := h t ht'
    simpa [Array.getD_eq_getD_getElem?, Array.getElem?_setIfInBounds, Ne.symm e] using this
theorem get_initTs : ∀ (l : List AV) (i : Nat) (t : Tr AV) (j : Nat), Tr.get (keyOf j) (initTs i l t) = if i ≤ j ∧ j < i + l.length then l[j - i]? else Tr.get (keyOf j) t
  | [], i, t, j => by
    have : ¬ (i ≤ j ∧ j < i + ([] : List AV).length) := by simp only [List.length_nil]; omega
    rw [if_neg this]; rfl
  | v :: l, i, t, j => by
    unfold initTs
    rw [get_initTs l (i + 1), get_put_key]
    by_cases e : j = i
    · subst e
      rw [if_neg (by omega), if_pos rfl, if_pos ⟨Nat.le_refl _, by simp⟩]
      simp
    · rw [if_neg e]
      by_cases h : i + 1 ≤ j ∧ j < i + 1 + l.length
      · rw [if_pos h, if_pos (by simp; omega)]
        obtain ⟨q, rfl⟩ : ∃ q, j = i + 1 + q := ⟨j - (i + 1), by omega⟩
        rw [show i + 1 + q - (i + 1) = q by omega, show i + 1 + q - i = q + 1 by omega]
        rfl
      · rw [if_neg h, if_neg (by simp; omega)]
theorem VRs.get {l : List AV} {vs : List Value} (h : VRs ρ l vs) {i : Nat} (hi : i < l.length) : ∃ v u, l[i]? = some v ∧ vs[i]? = some u ∧ VR ρ v u := by
  induction l generalizing vs i with
  | nil => simp at hi
  | cons a l ih =>
    cases h with
    | cons _ u _ vs h hs =>
      cases i with
      | zero => exact ⟨a, u, rfl, rfl, h⟩
      | succ i => obtain ⟨x, y, h1, h2, h3⟩ := ih hs (i := i) (by simpa using hi); exact ⟨x, y, by simpa using h1, by simpa using h2, h3⟩
theorem vr_undef : VR ρ .undef undef := .tup [] [] .nil
theorem TR.init {l : List AV} {us : List Value} (h : VRs ρ l us) (m : Nat) : TR ρ (initTs 0 l .lf) (us.toArray ++ Array.replicate m undef) := by
  intro t _
  have hlen := h.len
  simp only [X.ev, get_initTs]
  by_cases ht : t < l.length
  · obtain ⟨v, u, h1, h2, h3⟩ := h.get ht
    obtain ⟨hu1, hu2⟩ := List.getElem?_eq_some_iff.1 h2
    rw [if_pos (by omega), Nat.sub_zero, h1]
    have : (us.toArray ++ Array.replicate m undef).getD t undef = u := by
      rw [Array.getD_eq_getD_getElem?, Array.getElem?_append_left (by simpa using hu1)]
      simp [h2]
    rw [this]; exact h3
  · rw [if_neg (by omega), get_lf]
    have : (us.toArray ++ Array.replicate m undef).getD t undef = undef := by
      rw [Array.getD_eq_getD_getElem?, Array.getElem?_append_right (by simp; omega)]
      simp only [Array.getElem?_replicate]
      split <;> rfl
    rw [this]; exact vr_undef

/-! ### Is an operation done? -/
theorem want_sound {os : Array Oper} {o : Oper} {g : Option (X × Bool)} {tmps : Array Value} (hc : cGuard tmps.size os o.guard = some g) (ht : TR ρ ts tmps) : Region.wanted o (yielded os tmps) = want g ts := by
  unfold cGuard at hc
  unfold Region.wanted
  split at hc
  · rename_i hg
    cases hc
    rw [hg]; rfl
  · rename_i j b hg
    rw [hg]
    split at hc
    · rename_i oj ho
      split at hc
      · rename_i d hd
        split at hc
        · rename_i hlt
          cases hc
          rw [nblt] at hlt
          have hlt := of_decide_eq_true hlt
          have hv := ht d hlt
          simp only [yielded, ho, Option.bind_some, hd, want]
          have hget : tmps[d]? = some (tmps.getD d undef) := by
            rw [Array.getD_eq_getD_getElem?, Array.getElem?_eq_getElem hlt]; rfl
          rw [hget]
          generalize tmps.getD d undef = u at hv
          generalize X.ev ts (.t (keyOf d)) = v at hv ⊢
          cases hv <;> first | rfl | (rename_i c; cases c <;> cases b <;> rfl)
        · cases hc
      · cases hc
    · cases hc

/-! ### Calls that wait -/
def DR (P : Program) (ρ : Rho) : List AD → List Deferred → Prop
  | [], [] => True
  | .fn f args :: ds, d :: dd => (∃ fv cap us, d.target = .fn fv cap ∧ VRs ρ args us ∧ ∀ w : World, (invoke d.target d.args).run P w = (callFunc f us.toArray).run P w) ∧ DR P ρ ds dd
  | .mark id :: ds, d :: dd => (∃ L, ρ id = some L ∧ d.target = .collected L.b) ∧ DR P ρ ds dd
  | _, _ => False
theorem DR.mono (hl : Le ρ ρ') : ∀ {ds : List AD} {dd : List Deferred}, DR P ρ ds dd → DR P ρ' ds dd
  | [], [], _ => trivial
  | .fn _ _ :: _, _ :: _, ⟨⟨fv, cap, us, h1, h2, h3⟩, h⟩ => ⟨⟨fv, cap, us, h1, h2.mono hl, h3⟩, DR.mono hl h⟩
  | .mark _ :: _, _ :: _, ⟨⟨L, h1, h2⟩, h⟩ => ⟨⟨L, hl _ _ h1, h2⟩, DR.mono hl h⟩
  | [], _ :: _, h => h.elim
  | .fn _ _ :: _, [], h => h.elim
  | .mark _ :: _, [], h => h.elim
/-- how things stand -/
structure Rel (P : Program) (gl : Nat → Option AV) (F : Nat → Prop) (w0 : World) (n : Nat) (ρ : Rho) (ts : Tr AV) (σ : St) (ds : List AD) (a : Act) (w : World) : Prop where
  hr : HR P gl F w0 ρ σ w
  tr : TR ρ ts a.tmps
  sz : a.tmps.size = n
  df : DR P ρ ds a.defers
theorem Rel.ext {ds : List AD} {a : Act} (h : Rel P gl F w0 n ρ ts σ ds a w) (hr : HR P gl F w0 ρ' σ' w') (e : Ext ρ σ ρ' σ') : Rel P gl F w0 n ρ' ts σ' ds a w' :=
  ⟨hr, h.tr.mono (h.hr.leOf e), h.sz, h.df.mono (h.hr.leOf e)⟩
/-- a value comes into a temporary -/
theorem Rel.put {ds : List AD} {a : Act} (h : Rel P gl F w0 n ρ ts σ ds a w) {o : Oper} {d : Option (List Bool)} (hd : cDst n o.dst = some d) {v : AV} {u : Value} (hv : VR ρ v u) : Rel P gl F w0 n ρ (putD d v ts) σ ds (a.put o.dst u) w := by
  unfold cDst at hd
  split at hd
  · rename_i e
    cases hd
    rw [e]; exact h
  · rename_i t e
    split at hd
    · cases hd
      rw [e]
      exact ⟨h.hr, h.tr.put hv, by simpa [Act.put] using h.sz, h.df⟩
    · cases hd

/-! ### Results -/
def resM (tmps : Array Value) : ResultVar → Sem Value
  | .tmp t => pure (tmps.getD t undef)
  | .cell a t => do loadVar t (← asAddr (tmps.getD a undef))
theorem res_list {tmps : Array Value} (h : HR P gl F w0 ρ σ w) (ht : TR ρ ts tmps) : ∀ {l : List ResultVar} {rs : List RV} {vs : List AV}, cRV P tmps.size l = some rs → resA ts σ rs = some vs →
    ∃ us : List Value, VRs ρ vs us ∧ (l.mapM (resM tmps)).run P w = .ok us w
  | [], rs, vs, hc, hv => by
    cases hc; cases hv
    exact ⟨[], .nil, rfl⟩
  | r :: l, rs, vs, hc, hv => by
    unfold cRV at hc
    split at hc
    · rename_i r' rs' h1 h2
      cases hc
      unfold resA at hv
      split at hv
      · rename_i v hv1
        split at hv
        · rename_i vs' hv2
          cases hv
          obtain ⟨us, g1, g2⟩ := res_list h ht h2 hv2
          have key : ∃ u, VR ρ v u ∧ (resM tmps r).run P w = .ok u w := by
            split at h1
            · rename_i t
              split at h1
              · rename_i hlt
                cases h1
                cases hv1
                rw [nblt] at hlt
                exact ⟨_, ht t (of_decide_eq_true hlt), rfl⟩
              · cases h1
            · rename_i a t
              split at h1
              · rename_i m hlt hm
                cases h1
                rw [nblt] at hlt
                have hva := ht a (of_decide_eq_true hlt)
                obtain ⟨b, hb, u, hu, hru⟩ := ldA_sound (OR.of ⟨tmps, []⟩ rfl ht) h hva hm hv1
                refine ⟨u, hu, ?_⟩
                simp only [resM, hb, asAddr, Sem.run_bind, Sem.run_pure, Result.andThen, hru]
              · cases h1
          obtain ⟨u, hu, hru⟩ := key
          exact ⟨u :: us, .cons _ _ _ _ hu g1, by simp only [List.mapM_cons, Sem.run_bind, hru, Result.andThen, g2, Sem.run_pure]⟩
        · cases hv
      · cases hv
    · cases hc
theorem res_sound {fn : Func} {tmps : Array Value} (h : HR P gl F w0 ρ σ w) (ht : TR ρ ts tmps) {rs : List RV} {vs : List AV} (hc : cRV P tmps.size fn.results.toList = some rs) (hv : resA ts σ rs = some vs) :
    ∃ u, VR ρ (oneOr vs) u ∧ (results fn tmps).run P w = .ok u w := by
  obtain ⟨us, h1, h2⟩ := res_list h ht hc hv
  have hm : (fn.results.mapM (resM tmps)).run P w = .ok us.toArray w := by
    rw [Array.mapM_eq_mapM_toList]
    simp only [Sem.run_map, h2]
    trace_state
    rfl
  have hlen := h1.len
  refine ⟨if h : us.toArray.size = 1 then us.toArray[0] else .tuple us.toArray, ?_, ?_⟩
  · unfold oneOr
    split
    · rename_i v
      cases h1 with
      | cons _ u _ _ hv hn => cases hn; exact hv
    · rename_i hne
      rw [dif_neg]
      · exact .tup _ _ h1
      · intro hs
        have : us.length = 1 := by simpa using hs
        rw [this] at hlen
        obtain ⟨v, hv⟩ := List.length_eq_one_iff.1 hlen
        exact hne v hv
  · have hdef : results fn tmps = (do
        let vs ← fn.results.mapM (resM tmps)
        pure (if h : vs.size = 1 then vs[0] else .tuple vs)) := rfl
    rw [hdef]
    simp only [Sem.run_bind, hm, Result.andThen, Sem.run_pure]
end Go.Proofs.YtjiaoppefinljaaGreatDoor.Ab

/- Calls, rounds of a range over a function, what waits for a function's end. -/
namespace Go.Proofs.YtjiaoppefinljaaGreatDoor.Ab
open Go
variable {P : Program} {gl : Nat → Option AV} {F : Nat → Prop} {w0 : World} {ρ ρ' ρ0 : Rho} {σ σ' σ0 : St} {w w' : World} {n : Nat} {ts : Tr AV}

def exitOf : AEx → Exit
  | .norm => .normal
  | .exit id => .exit id
  | .ret => .ret
/-- what a walk may take for granted behind a piece of code -/
def Post (P : Program) (gl : Nat → Option AV) (F : Nat → Prop) (w0 : World) (k : KT) (n : Nat) (ρ : Rho) (σ : St) (Q : Exit → Act → World → Prop) : Prop :=
  ∀ e ts' σ' ds' ρ' (a' : Act) w', k e ts' σ' ds' = true → Rel P gl F w0 n ρ' ts' σ' ds' a' w' → Ext ρ σ ρ' σ' → Q (exitOf e) a' w'
/-- runs of our own tell of the program's -/
def ExOk (P : Program) (gl : Nat → Option AV) (F : Nat → Prop) (w0 : World) (ex : ExT) : Prop :=
  ∀ (o : Option Nat) (c : Code) (n : Nat) (ts : Tr AV) (σ : St) (ds : List AD) (k : KT) (ρ : Rho) (a : Act) (w : World) (Q : Exit → Act → World → Prop),
    Rel P gl F w0 n ρ ts σ ds a w → ex o.isSome (comp P gl n c) ts σ ds k = true → Post P gl F w0 k n ρ σ Q → wpS (Wd o) 0 P c Q a w
/-- what is known behind a call -/
def RA (P : Program) (gl : Nat → Option AV) (F : Nat → Prop) (w0 : World) (k : AV → St → Bool) (ρ : Rho) (σ : St) (u : Value) (w' : World) : Prop :=
  ∃ v σ' ρ', k v σ' = true ∧ VR ρ' v u ∧ HR P gl F w0 ρ' σ' w' ∧ Ext ρ σ ρ' σ'
def onRet (R : Value → World → Prop) : Ending → World → Prop
  | .returned v, w => R v w
  | _, _ => False
/-- a call comes to an end as R says -/
def InvOk (P : Program) (R : Value → World → Prop) : Result Next → Prop
  | .ok (.value v) w' => R v w'
  | .ok (.enter f args) w' => CallsIn (Wd none) 0 P f args w' (onRet R)
  | .ok (.round l f tmps assign body) w' => RoundIn (Wd none) 0 P l f tmps assign body w' (onRet R)
  | _ => False
theorem InvOk.mono {R R' : Value → World → Prop} {r : Result Next} (h : InvOk P R r) (hr : ∀ v w, R v w → R' v w) : InvOk P R' r := by
  have key : ∀ e w, onRet R e w → onRet R' e w := fun e w h => by cases e <;> first | exact hr _ _ h | exact h
  unfold InvOk at *
  split at h
  · exact hr _ _ h
  · exact h.mono key
  · exact h.mono key
  · exact h.elim
/-- what is given holds of the program -/
structure EnvOk (P : Program) (gl : Nat → Option AV) (F : Nat → Prop) (w0 : World) (E : Env) : Prop where
  prog : E.P = P
  fns : ∀ f cf, E.fns f = some cf → cFn P gl f = some cf
  memo : ∀ f m, E.memo f = some m → ∀ args us σ v ρ w, m args σ = some v → VRs ρ args us → HR P gl F w0 ρ σ w →
    InvOk P (fun u w' => ∃ ρ', VR ρ' v u ∧ HR P gl F w0 ρ' σ w' ∧ Ext ρ σ ρ' σ) ((callFunc f us.toArray).run P w)
  addI : ∀ args w, (callFunc E.addI args).run P w = ((Extern.Atomic.update (Op.intArith .add) .i64 true args).run P w).andThen fun v w' => .ok (.value v) w'
  noZ : ∃ ps t, P.underlying t = some (.slice E.byteT) ∧ ∀ args w, (callFunc E.noZ args).run P w = ((Extern.BytealgMakeNoZero.makeNoZero ps #[t] args).run P w).andThen fun v w' => .ok (.value v) w'

theorem cFn_spec {f : FuncId} {cf : CF} (h : cFn P gl f = some cf) : ∃ fn c, P.funcs[f]? = some fn ∧ fn.body = some c ∧ cf.c = comp P gl fn.ntmps c ∧ cf.n = fn.ntmps ∧ cRV P fn.ntmps fn.results.toList = some cf.rs ∧
    ∀ (args : Array Value) (w : World), (callFunc f args).run P w = .ok (.enter f args) w := by
  unfold cFn at h
  split at h
  · rename_i fn hf
    split at h
    · rename_i c rs hb hr
      split at h
      · cases h
      · rename_i hn
        cases h
        refine ⟨fn, c, hf, hb, rfl, rfl, hr, fun args w => ?_⟩
        have h1 : fn.name ≠ "runtime.NumGoroutine" := by simpa using hn
        simp [callFunc, hf, h1, hb]
    · cases h
  · cases h

/-! ### A number is given up, and its block is written -/
theorem HR.drop (h : HR P gl F w0 ρ σ w) {id : Nat} {L : Loc} {o' : Obj} (hi : ρ id = some L) (hg : σ.get id ≠ none) (hnr : ¬ Ro σ id) (hw : Wrote w w' L.b o') : HR P gl F w0 ρ (σ.kill id) w' := by
  have hk := h.kill id
  refine ⟨hw.os.trans h.os, hw.tape.trans h.tape, hw.out.trans h.out, by rw [hw.size]; exact h.size, fun b hf => ⟨(h.frame b hf).1, ?_⟩, fun i M hm => ?_, fun i M B hm hget => ?_, hk.inj⟩
  · rw [hw.other b (fun e => hnr ((h.dom id L hi).2.2 (e ▸ hf)))]; exact (h.frame b hf).2
  · have := hk.dom i M hm
    exact ⟨this.1, by rw [hw.size]; exact this.2.1, this.2.2⟩
  · obtain ⟨o, ho, hbr⟩ := hk.blk i M B hm hget
    refine ⟨o, ?_, hbr⟩
    rw [St.get_kill] at hget
    by_cases e : i = id
    · rw [if_pos e] at hget; cases hget
    · rw [if_neg e] at hget
      rw [hw.other _ (fun eb => e (h.inj i id M L hm hi (by rw [hget]; simp) hg eb))]
      exact ho

section
variable {E : Env} {ex : ExT} (hE : EnvOk P gl F w0 E) (hx : ExOk P gl F w0 ex)
include hE hx

/-! ### A function's end -/
theorem leave_sound {fn : Func} {rs : List RV} {tmps : Array Value} (hc : cRV P tmps.size fn.results.toList = some rs) {k : AV → St → Bool} : ∀ {ds : List AD} {dd : List Deferred} {σ : St} {ρ : Rho} {w : World},
    leave E ex ts rs ds σ k = true → HR P gl F w0 ρ σ w → TR ρ ts tmps → DR P ρ ds dd → Ext ρ0 σ0 ρ σ → LeavesInM (Wd none) 0 P fn tmps (onRet (RA P gl F w0 k ρ0 σ0)) dd .returning w
  | [], [], σ, ρ, w, hl, h, ht, _, he => by
    unfold leave at hl
    split at hl
    · rename_i l hv
      obtain ⟨u, hu, hru⟩ := res_sound h ht hc hv
      exact ⟨u, hru, _, _, _, hl, hu, h, he⟩
    · cases hl
  | .mark id :: ds, d :: dd, σ, ρ, w, hl, h, ht, hd, he => by
    unfold leave at hl
    split at hl
    · rename_i hg
      obtain ⟨⟨L, h1, h2⟩, hd⟩ := hd
      obtain ⟨o, ho, hbr⟩ := h.blk id L _ h1 hg
      have hbr : o = .deferred (some []) := hbr
      subst hbr
      have hgo := run_getObj (P := P) ho (fun c e f => (by simp))
      have hso := run_setObj (P := P) (o' := .deferred none) ho (fun c e f => (by simp))
      have hW := Wrote.setObj (w := w) (o := .deferred none) (heap_lt ho)
      have hn := h.drop h1 (by rw [hg]; simp) (nro_other hg (by simp)) hW
      refine ⟨by simp, .inl ⟨L.b, _, h2, ?_, leave_sound hc hl hn ht hd (he.trans (Ext.kill σ h1))⟩⟩
      simp only [Instr.takeDeferred, Sem.run_bind, hgo, Result.andThen, hso, Sem.run_pure]
    · cases hl
  | .fn f args :: ds, d :: dd, σ, ρ, w, hl, h, ht, hd, he => by
    unfold leave at hl
    split at hl
    · rename_i cf hf
      split at hl
      · rename_i hrs
        split at hl
        · rename_i hlen
          obtain ⟨⟨fv, cap, us, h1, h2, h3⟩, hd⟩ := hd
          obtain ⟨fn', c, k1, k2, k3, k4, k5, k6⟩ := cFn_spec (hE.fns f cf hf)
          rw [k3] at hl
          rw [nble, k4] at hlen
          have hlen := of_decide_eq_true hlen
          have hul := h2.len
          refine ⟨by simp, .inr ⟨wd_depth, fv, cap, f, us.toArray, h1, by rw [h3, k6], fun _ _ => trivial, ?_⟩⟩
          refine CallsDIn.mono (callsDIn_of_wp (R := fun e w' => ∃ v, e = .returned v ∧ LeavesInM (Wd none) 0 P fn tmps (onRet (RA P gl F w0 k ρ0 σ0)) dd .returning w') k1 k2 trivial ?_) ?_
          · refine (hx none c fn'.ntmps _ σ [] _ ρ ⟨us.toArray ++ Array.replicate (fn'.ntmps - us.toArray.size) undef, []⟩ w _ ⟨h, TR.init h2 _, by simp; omega, trivial⟩ hl ?_).wpIn
            intro e ts' σ' ds' ρ' a' w' hk hR hE'
            dsimp only at hk
            have fin : leave E ex ts rs ds σ' k = true → ds' = [] → a'.defers = [] ∧ ∃ v, (results fn' a'.tmps).run P w' = .ok v w' ∧ ∃ u, Ending.returned v = .returned u ∧ LeavesInM (Wd none) 0 P fn tmps (onRet (RA P gl F w0 k ρ0 σ0)) dd .returning w' := fun hk' hds => by
              subst hds
              obtain ⟨u, hu, hru⟩ := res_sound (fn := fn') (rs := []) (vs := []) hR.hr hR.tr (by rw [hR.sz, k5, hrs]) rfl
              have hdd := hR.df
              refine ⟨?_, u, hru, u, rfl, leave_sound hc hk' hR.hr (ht.mono (h.leOf hE')) (hd.mono (h.leOf hE')) (he.trans hE')⟩
              cases hq : a'.defers with
              | nil => rfl
              | cons _ _ => rw [hq] at hdd; exact hdd.elim
            split at hk
            · exact fin hk rfl
            · exact fin hk rfl
            · cases hk
          · rintro e u' w' ⟨rfl, v, rfl, hv⟩
            exact hv
        · cases hl
      · cases hl
    · cases hl
  | [], _ :: _, _, _, _, _, _, _, hd, _ => hd.elim
  | .fn _ _ :: _, [], _, _, _, _, _, _, hd, _ => hd.elim
  | .mark _ :: _, [], _, _, _, _, _, _, hd, _ => hd.elim

/-! ### Calls -/
omit hE hx in
theorem Acts.inv {s : Sem Value} {v : AV} {k : AV → St → Bool} (h : Acts P gl F w0 ρ σ w s v σ') (hk : k v σ' = true) : InvOk P (RA P gl F w0 k ρ σ) ((s.run P w).andThen fun v w' => .ok (.value v) w') := by
  obtain ⟨u, ρ', w', h1, h2, h3, h4⟩ := h
  rw [h2]
  exact ⟨v, σ', ρ', hk, h1, h3, h4⟩
theorem callF_sound {f : FuncId} {args : List AV} {us : List Value} {k : AV → St → Bool} (hl : callF E ex f args σ k = true) (ha : VRs ρ args us) (h : HR P gl F w0 ρ σ w) :
    InvOk P (RA P gl F w0 k ρ σ) ((callFunc f us.toArray).run P w) := by
  unfold callF at hl
  split at hl
  · rename_i m hm
    split at hl
    · rename_i v hv
      exact (hE.memo f m hm args us σ v ρ w hv ha h).mono fun u w' ⟨ρ', h1, h2, h3⟩ => ⟨v, σ, ρ', hl, h1, h2, h3⟩
    · cases hl
  · split at hl
    · rename_i hf
      have hf := Nat.eq_of_beq_eq_true hf
      subst hf
      split at hl
      · rename_i v σ' hv
        rw [hE.addI]
        exact (addI_sound h ha hv).inv hl
      · cases hl
    · split at hl
      · rename_i hf
        have hf := Nat.eq_of_beq_eq_true hf
        subst hf
        split at hl
        · rename_i v σ' hv
          obtain ⟨ps, t, ht, hrun⟩ := hE.noZ
          rw [hrun]
          exact (noZ_sound h ht ha hv).inv hl
        · cases hl
      · split at hl
        · rename_i cf hf
          split at hl
          · rename_i hlen
            obtain ⟨fn', c, k1, k2, k3, k4, k5, k6⟩ := cFn_spec (hE.fns f cf hf)
            rw [k3] at hl
            rw [nble, k4] at hlen
            have hlen := of_decide_eq_true hlen
            have hul := ha.len
            rw [k6]
            refine callsIn_of_wp_marks (F := Wd none) k1 k2 trivial ?_
            refine (hx none c fn'.ntmps _ σ [] _ ρ ⟨us.toArray ++ Array.replicate (fn'.ntmps - us.toArray.size) undef, []⟩ w _ ⟨h, TR.init ha _, by simp; omega, trivial⟩ hl ?_).wpIn
            intro e ts' σ' ds' ρ' a' w' hk hR hE'
            dsimp only at hk
            split at hk
            · exact leave_sound hE hx (by rw [hR.sz]; exact k5) hk hR.hr hR.tr hR.df hE'
            · exact leave_sound hE hx (by rw [hR.sz]; exact k5) hk hR.hr hR.tr hR.df hE'
            · cases hk
          · cases hl
        · cases hl
omit hE hx in
theorem putAll_sound : ∀ {ps : List Tmp} {pp : List (List Bool)} {l : List AV} {us : List Value} {tmps : Array Value} {ts ts1 : Tr AV}, cPaths tmps.size ps = some pp → putAll pp l ts = some ts1 → VRs ρ l us → TR ρ ts tmps →
    us.length = ps.length ∧ TR ρ ts1 ((ps.zip us).foldl (fun tmps (t, a) => tmps.setIfInBounds t a) tmps) ∧ ((ps.zip us).foldl (fun tmps (t, a) => tmps.setIfInBounds t a) tmps).size = tmps.size
  | [], pp, l, us, tmps, ts, ts1, hp, ha, hv, ht => by
    cases hp
    cases l with
    | nil => cases ha; cases hv; exact ⟨rfl, ht, rfl⟩
    | cons _ _ => cases ha
  | t :: ps, pp, l, us, tmps, ts, ts1, hp, ha, hv, ht => by
    unfold cPaths at hp
    split at hp
    · rename_i r hlt hr
      cases hp
      cases l with
      | nil => cases ha
      | cons v l =>
        cases hv with
        | cons _ u _ us' hv hvs =>
          simp only [putAll] at ha
          have := putAll_sound (tmps := tmps.setIfInBounds t u) (by simpa using hr) ha hvs (ht.put hv)
          obtain ⟨g1, g2, g3⟩ := this
          exact ⟨by simp [g1], g2, by simpa using g3⟩
    · cases hp
omit hE in
theorem roundA_sound {id : Nat} {args : List AV} {us : List Value} {k : AV → St → Bool} {L : Loc} (hl : roundA ex id args σ k = true) (ha : VRs ρ args us) (h : HR P gl F w0 ρ σ w) (hid : ρ id = some L) :
    InvOk P (RA P gl F w0 k ρ σ) ((Instr.yield L.b us.toArray).run P w) := by
  unfold roundA at hl
  split at hl
  · rename_i ts ps assign body hg
    split at hl
    · rename_i ts1 hp
      obtain ⟨o, ho, lp, rfl, q1, q2, q3, q4, q5, q6⟩ := h.blk id L _ hid hg
      subst q5 q6
      obtain ⟨g1, g2, g3⟩ := putAll_sound q4 hp ha q3
      have hgo := run_getObj (P := P) ho (fun c e f => (by simp))
      have hz : (lp.params.zip us.toArray).foldl (fun tmps (t, a) => tmps.setIfInBounds t a) lp.tmps = (lp.params.toList.zip us).foldl (fun tmps (t, a) => tmps.setIfInBounds t a) lp.tmps := by
        rw [← Array.foldl_toList, Array.toList_zip]
      have hrun : (Instr.yield L.b us.toArray).run P w = .ok (.round L.b lp.fn ((lp.params.toList.zip us).foldl (fun tmps (t, a) => tmps.setIfInBounds t a) lp.tmps) lp.assign lp.body) w := by
        have : ¬ (us.toArray.size ≠ lp.params.size) := by simp at g1; simp [g1]
        simp only [Instr.yield, Instr.getLoop, Sem.run_bind, hgo, Result.andThen, Sem.run_pure, if_neg this, hz]
      rw [hrun]
      refine roundIn_of_wpIn (F := Wd none) trivial ?_
      have hlt := (h.dom id L hid).1
      refine (hx (some L.b) lp.assign lp.tmps.size _ σ [] _ ρ ⟨_, []⟩ w _ ⟨h, g2, g3, trivial⟩ hl ?_).wpIn
      intro e ts2 σ1 ds1 ρ1 a1 w1 hk hR1 hE1
      dsimp only at hk
      split at hk
      · split at hk
        · rename_i ta pa aa ba hg1
          have hid1 : ρ1 id = some L := by rw [hE1.same id hlt]; exact hid
          obtain ⟨o1, ho1, lp1, rfl, b1, b2, b3, b4, b5, b6⟩ := hR1.hr.blk id L _ hid1 hg1
          have hgo1 := run_getObj (P := P) ho1 (fun c e f => (by simp))
          have hso1 := fun o' => run_setObj (P := P) (o' := o') ho1 (fun c e f => (by simp))
          have hW1 := Wrote.setObj (w := w1) (o := .loop { lp1 with state := .busy }) (heap_lt ho1)
          have hH1 := hR1.hr.write (B' := .loop true ta pa aa ba) hid1 (by rw [hg1]; simp) (nro_other hg1 (by simp)) hW1 ⟨_, rfl, rfl, b2, b3, b4, b5, b6⟩
          have hX1 := Ext.set (ρ := ρ1) σ1 hid1 (.loop true ta pa aa ba)
          have b1 : lp1.state = .ready := b1
          refine ⟨{ w1 with heap := w1.heap.setIfInBounds L.b (.loop { lp1 with state := .busy }) }, ?_, ?_⟩
          · simp only [Instr.beginRound, Instr.getLoop, Sem.run_bind, hgo1, Result.andThen, Sem.run_pure, hso1, b1]
          · refine (hx (some L.b) lp.body lp.tmps.size _ _ _ _ ρ1 a1 _ _ ⟨hH1, hR1.tr, hR1.sz, hR1.df⟩ hk ?_).wpIn
            · intro e2 ts3 σ2 ds2 ρ2 a2 w2 hk hR2 hE2
              dsimp only at hk
              split at hk
              · split at hk
                · rename_i busy tb pb ab bb hg2
                  have hid2 : ρ2 id = some L := by rw [hE2.same id (Nat.lt_of_lt_of_le hlt (Nat.le_trans hE1.le hX1.le))]; exact hid1
                  obtain ⟨o2, ho2, lp2, rfl, c1, c2, c3, c4, c5, c6⟩ := hR2.hr.blk id L _ hid2 hg2
                  have hgo2 := run_getObj (P := P) ho2 (fun c e f => (by simp))
                  have hso2 := fun o' => run_setObj (P := P) (o' := o') ho2 (fun c e f => (by simp))
                  have hW2 := Wrote.setObj (w := w2) (o := .loop { lp2 with state := .ready, pending := none }) (heap_lt ho2)
                  have hH2 := hR2.hr.write (B' := .loop false tb pb ab bb) hid2 (by rw [hg2]; simp) (nro_other hg2 (by simp)) hW2 ⟨_, rfl, rfl, rfl, c3, c4, c5, c6⟩
                  refine ⟨.bool true, _, ?_, _, _, ρ2, hk, .bool true, hH2, hE1.trans (hX1.trans (hE2.trans (Ext.set σ2 hid2 _)))⟩
                  simp only [Instr.endRound, Instr.getLoop, Sem.run_bind, hgo2, Result.andThen, Sem.run_pure, hso2]
                  rfl
                · cases hk
              · cases hk
        · cases hk
      · cases hk
    · cases hl
  · cases hl
end
end Go.Proofs.YtjiaoppefinljaaGreatDoor.Ab

/- One operation of a region; regions that keep their order. -/
namespace Go.Proofs.YtjiaoppefinljaaGreatDoor.Ab
open Go
variable {P : Program} {gl : Nat → Option AV} {F : Nat → Prop} {w0 : World} {ρ ρ' ρ0 : Rho} {σ σ' σ0 : St} {w w' : World} {n : Nat} {ts : Tr AV}

theorem arr_map {r : Operand → Value} (a : Array Operand) : a.map r = (List.map r a.toList).toArray := by apply Array.toList_inj.1; simp
theorem uponIn_inv {ro : Option Nat} {o : Oper} {a : Act} {K : Act → World → Prop} {Q : Exit → Act → World → Prop} {R : Value → World → Prop} {res : Result Next} (h : InvOk P R res) (hk : ∀ v w', R v w' → K (a.put o.dst v) w') :
    o.uponIn (Wd ro) 0 P a K Q res := by
  have key : ∀ e w, onRet R e w → (match e, w with
      | .returned v, w'' => K (a.put o.dst v) w''
      | .panicked chain, w'' => Q (.panic chain) a w''
      | .outgrown, _ => LetsOut Q) := fun e w h => by cases e <;> first | exact hk _ _ h | exact h.elim
  unfold InvOk at h
  split at h
  · exact hk _ _ h
  · exact ⟨wd_depth, (wd_calls h).mono key⟩
  · exact ⟨wd_depth, RoundIn.mono (F := Wd ro) h key⟩
  · exact h.elim
theorem call_shape {o : Oper} {i : EI} (hc : cOp P gl n o = some (.e i)) (hp : ¬ plainE i = true) : (∃ c f fx ax, o.op = .call c ∧ c.callee = .value f ∧ cX n f = some fx ∧ cXs n c.args.toList = some ax ∧ i = .call fx ax) ∨ (∃ c f fx m ax, o.op = .call c ∧ c.callee = .invoke f m ∧ cX n f = some fx ∧ cXs n c.args.toList = some ax ∧ i = .inv fx m ax) ∨ (∃ c f fx ax, o.op = .defer c ∧ c.callee = .value f ∧ cX n f = some fx ∧ cXs n c.args.toList = some ax ∧ i = .dfr fx ax) := by
  unfold cOp at hc
  split at hc
  · repeat' (split at hc)
    all_goals first | (cases hc; done) | (cases hc; exact absurd rfl hp)
  · repeat' (split at hc)
    all_goals first | (cases hc; done) | (cases hc; exact absurd rfl hp)
  · repeat' (split at hc)
    all_goals first | (cases hc; done) | (cases hc; exact absurd rfl hp)
  · repeat' (split at hc)
    all_goals first | (cases hc; done) | (cases hc; exact absurd rfl hp)
  · repeat' (split at hc)
    all_goals first | (cases hc; done) | (cases hc; exact absurd rfl hp)
  · unfold cBuild at hc
    repeat' (split at hc)
    all_goals cases hc
  · repeat' (split at hc)
    all_goals first | (cases hc; done) | (cases hc; exact absurd rfl hp)
  · repeat' (split at hc)
    all_goals first | (cases hc; done) | (cases hc; exact absurd rfl hp)
  · repeat' (split at hc)
    all_goals first | (cases hc; done) | (cases hc; exact absurd rfl hp)
  · repeat' (split at hc)
    all_goals first | (cases hc; done) | (cases hc; exact absurd rfl hp)
  · repeat' (split at hc)
    all_goals first | (cases hc; done) | (cases hc; exact absurd rfl hp)
  · repeat' (split at hc)
    all_goals first | (cases hc; done) | (cases hc; exact absurd rfl hp)
  · split at hc
    · unfold cConv at hc
      repeat' (split at hc)
      all_goals cases hc
    · cases hc
  · repeat' (split at hc)
    all_goals first | (cases hc; done) | (cases hc; exact absurd rfl hp)
  · repeat' (split at hc)
    all_goals first | (cases hc; done) | (cases hc; exact absurd rfl hp)
  · repeat' (split at hc)
    all_goals first | (cases hc; done) | (cases hc; exact absurd rfl hp)
  · repeat' (split at hc)
    all_goals first | (cases hc; done) | (cases hc; exact absurd rfl hp)
  · repeat' (split at hc)
    all_goals first | (cases hc; done) | (cases hc; exact absurd rfl hp)
  · repeat' (split at hc)
    all_goals first | (cases hc; done) | (cases hc; exact absurd rfl hp)
  · repeat' (split at hc)
    all_goals first | (cases hc; done) | (cases hc; exact absurd rfl hp)
  · repeat' (split at hc)
    all_goals first | (cases hc; done) | (cases hc; exact absurd rfl hp)
  · repeat' (split at hc)
    all_goals first | (cases hc; done) | (cases hc; exact absurd rfl hp)
  · repeat' (split at hc)
    all_goals first | (cases hc; done) | (cases hc; exact absurd rfl hp)
  · repeat' (split at hc)
    all_goals first | (cases hc; done) | (cases hc; exact absurd rfl hp)
  · repeat' (split at hc)
    all_goals first | (cases hc; done) | (cases hc; exact absurd rfl hp)
  · repeat' (split at hc)
    all_goals first | (cases hc; done) | (cases hc; exact absurd rfl hp)
  · repeat' (split at hc)
    all_goals first | (cases hc; done) | (cases hc; exact absurd rfl hp)
  · rename_i c ho
    split at hc
    · unfold cBuiltin at hc
      repeat' (split at hc)
      all_goals first | (cases hc; done) | (cases hc; exact absurd rfl hp)
    · rename_i f ax hcal hax
      split at hc
      · rename_i fx hf
        cases hc
        exact .inl ⟨c, f, fx, ax, ho, hcal, hf, hax, rfl⟩
      · cases hc
    · rename_i f m ax hcal hax
      split at hc
      · rename_i fx hf
        cases hc
        exact .inr (.inl ⟨c, f, fx, m, ax, ho, hcal, hf, hax, rfl⟩)
      · cases hc
    · cases hc
  · rename_i c ho
    split at hc
    · rename_i f ax hcal hax
      split at hc
      · rename_i fx hf
        cases hc
        exact .inr (.inr ⟨c, f, fx, ax, ho, hcal, hf, hax, rfl⟩)
      · cases hc
    · cases hc
  · cases hc
section
variable {E : Env} {ex : ExT} (hE : EnvOk P gl F w0 E) (hx : ExOk P gl F w0 ex)
include hE hx
theorem callV_sound {g : AV} {ug : Value} {args : List AV} {us : List Value} {k : AV → St → Bool} (hl : callV E ex g args σ k = true) (hg : VR ρ g ug) (ha : VRs ρ args us) (h : HR P gl F w0 ρ σ w) :
    InvOk P (RA P gl F w0 k ρ σ) ((do let d ← Deferred.ofValue ug us.toArray; invoke d.target d.args : Sem Next).run P w) := by
  unfold callV at hl
  split at hl
  · rename_i f first caps
    cases hg with
    | fn _ _ _ vs cs h1 h2 =>
      have hv := h1.append (ha.append h2)
      have := callF_sound hE hx hl hv h
      have e : (vs ++ (us ++ cs)).toArray = (vs.toArray ++ us.toArray) ++ cs.toArray := by simp
      rw [e] at this
      simp only [Deferred.ofValue, Sem.run_bind, Sem.run_pure, Result.andThen, invoke]
      exact this
  · rename_i id
    cases hg with
    | yld _ L hid =>
      have := roundA_sound hx hl ha h hid
      simp only [Deferred.ofValue, Sem.run_bind, Sem.run_pure, Result.andThen, invoke]
      have e : (#[] : Array Value) ++ us.toArray = us.toArray := by simp
      rw [e]
      exact this
  · cases hl
theorem invA_sound {r : AV} {ur : Value} {name : String} {args : List AV} {us : List Value} {k : AV → St → Bool} (hl : invA E ex r name args σ k = true) (hg : VR ρ r ur) (ha : VRs ρ args us) (h : HR P gl F w0 ρ σ w) :
    InvOk P (RA P gl F w0 k ρ σ) ((invoke (.fn (.method name) #[]) (#[ur] ++ us.toArray)).run P w) := by
  unfold invA at hl
  split at hl
  · rename_i t v
    split at hl
    · rename_i f hf
      rw [hE.prog] at hf
      cases hg with
      | ifc _ _ u hu =>
        have := callF_sound hE hx hl (.cons _ _ _ _ hu ha) h
        have e1 : (#[Value.iface t u] ++ us.toArray)[0]? = some (.iface t u) := by simp
        have e2 : (#[Value.iface t u] ++ us.toArray).extract 1 (#[Value.iface t u] ++ us.toArray).size = us.toArray := by simp
        have e3 : #[u] ++ us.toArray = (u :: us).toArray := by simp
        have hm := fun w => method_run (P := P) hf (P.types.size + Made.depth - 1) u w
        have e4 : P.types.size + Made.depth = P.types.size + Made.depth - 1 + 1 := by
          have : 0 < Made.depth := by decide
          omega
        rw [← e4] at hm
        simp only [invoke, e1, e2, callMethod, Sem.run_bind, run_program, Result.andThen, hm, e3]
        exact this
    · cases hl
  · cases hl
/-- an operation that acts, whatever it is -/
theorem opE_sound {ro : Option Nat} {o : Oper} {i : EI} {a : Act} {k : AV → St → Bool} {K : Act → World → Prop} {Q : Exit → Act → World → Prop} (hc : cOp P gl n o = some (.e i)) (hr : OR ρ n ts a.eval) (h : HR P gl F w0 ρ σ w) (hk : evE E ex i ts σ k = true)
    (hK : ∀ v σ' ρ' u w', k v σ' = true → VR ρ' v u → HR P gl F w0 ρ' σ' w' → Ext ρ σ ρ' σ' → K (a.put o.dst u) w') : o.uponIn (Wd ro) 0 P a K Q ((execOp a.eval o).run P w) := by
  by_cases hp : plainE i = true
  · obtain ⟨v, σ', h1, ρ', w', h2, h3, h4⟩ := evE_sound hr h hc hp hk
    rcases h4 with ⟨u, h5, h6⟩ | ⟨h5, h6⟩
    · rw [h6]; exact hK v σ' ρ' u w' h1 h5 h2 h3
    · rw [h6]; exact hK v σ' ρ' undef w' h1 (h5 ▸ vr_undef) h2 h3
  · rcases call_shape hc hp with ⟨c, f, fx, ax, ho, hcal, hf, hax, rfl⟩ | ⟨c, f, fx, m, ax, ho, hcal, hf, hax, rfl⟩ | ⟨c, f, fx, ax, ho, hcal, hf, hax, rfl⟩
    · simp only [evE] at hk
      have := callV_sound hE hx hk (hr _ _ hf) (cXs_sound hr hax) h
      have e : (execOp a.eval o).run P w = (do let d ← Deferred.ofValue (a.eval f) (List.map a.eval c.args.toList).toArray; invoke d.target d.args : Sem Next).run P w := by
        simp only [execOp, ho, resolve, hcal, arr_map]
      rw [e]
      exact uponIn_inv this fun v w' ⟨v', σ', ρ', g1, g2, g3, g4⟩ => hK v' σ' ρ' v w' g1 g2 g3 g4
    · simp only [evE] at hk
      have := invA_sound hE hx hk (hr _ _ hf) (cXs_sound hr hax) h
      have e : (execOp a.eval o).run P w = (invoke (.fn (.method m) #[]) (#[a.eval f] ++ (List.map a.eval c.args.toList).toArray)).run P w := by
        simp only [execOp, ho, resolve, hcal, arr_map, Sem.run_bind, Sem.run_pure, Result.andThen]
      rw [e]
      exact uponIn_inv this fun v w' ⟨v', σ', ρ', g1, g2, g3, g4⟩ => hK v' σ' ρ' v w' g1 g2 g3 g4
    · simp only [evE] at hk
      cases hk

/-! ### Regions that keep their order -/
omit hE hx in
theorem cIOp_spec {os : Array Oper} {o : Oper} {io : IOp} (h : cIOp P gl n os o = some io) : cOp P gl n o = some io.i ∧ cDst n o.dst = some io.dst ∧ cGuard n os o.guard = some io.guard := by
  unfold cIOp at h
  split at h
  · rename_i i d g h1 h2 h3
    cases h
    exact ⟨h1, h2, h3⟩
  · cases h
omit hE hx in
/-- no call that waits -/
theorem not_defer {o : Oper} {i : I} (hc : cOp P gl n o = some i) (h : ∀ f x, i ≠ .e (.dfr f x)) : ∀ c, o.op ≠ .defer c := by
  intro c ho
  unfold cOp at hc
  rw [ho] at hc
  simp only at hc
  split at hc
  · split at hc
    · cases hc; exact h _ _ rfl
    · cases hc
  · cases hc
theorem ops_sound (hgl : GlOk F w0 gl) {os : Array Oper} {ro : Option Nat} {Q : Exit → Act → World → Prop} {k : Tr AV → St → List AD → Bool} : ∀ (l : List Oper) (i : Nat) (ios : List IOp) {ts : Tr AV} {σ : St} {ds : List AD} {ρ : Rho} {a : Act} {w : World},
    (∀ j o, l[j]? = some o → os[i + j]? = some o) → cIOps P gl n os l = some ios → Rel P gl F w0 n ρ ts σ ds a w → ops E ex ro.isSome ios ts σ ds k = true →
    (∀ ts' σ' ds' ρ' a' w', k ts' σ' ds' = true → Rel P gl F w0 n ρ' ts' σ' ds' a' w' → Ext ρ σ ρ' σ' → Q .normal a' w') → wpOpsIn (Wd ro) 0 P os Q (List.range' i l.length) a w
  | [], i, ios, ts, σ, ds, ρ, a, w, _, hc, hR, hk, hQ => by
    cases hc
    exact hQ _ _ _ _ _ _ hk hR (Ext.refl _ _)
  | o :: l, i, ios, ts, σ, ds, ρ, a, w, ho, hc, hR, hk, hQ => by
    unfold cIOps at hc
    split at hc
    · rename_i io hio
      split at hc
      · rename_i ios' hios
        cases hc
        obtain ⟨c1, c2, c3⟩ := cIOp_spec hio
        have hoi : os[i]? = some o := by have := ho 0 o rfl; simpa using this
        have hrest : ∀ j o', l[j]? = some o' → os[i + 1 + j]? = some o' := fun j o' h => by have := ho (j + 1) o' (by simpa using h); rw [show i + 1 + j = i + (j + 1) by omega]; exact this
        have hOR : OR ρ n ts a.eval := OR.of a hR.sz hR.tr
        have hw := want_sound (tmps := a.tmps) (os := os) (o := o) (by rw [hR.sz]; exact c3) hR.tr
        -- on from a state
        have go : ∀ {ts' : Tr AV} {σ' : St} {ds' : List AD} {ρ' : Rho} {a' : Act} {w' : World}, Rel P gl F w0 n ρ' ts' σ' ds' a' w' → Ext ρ σ ρ' σ' → ops E ex ro.isSome ios' ts' σ' ds' k = true → wpOpsIn (Wd ro) 0 P os Q (List.range' (i + 1) l.length) a' w' :=
          fun hR' hX hk' => ops_sound hgl l (i + 1) ios' hrest hios hR' hk' fun ts'' σ'' ds'' ρ'' a'' w'' h1 h2 h3 => hQ ts'' σ'' ds'' ρ'' a'' w'' h1 h2 (hX.trans h3)
        simp only [List.length_cons, List.range'_succ]
        rw [wpOpsIn_cons]
        unfold wpOpIn
        simp only [hoi]
        rw [hw]
        have hk : (match want io.guard ts with
          | true => (match io.i with
            | .p i => (match evP E.P i ts with | some v => ops E ex ro.isSome ios' (putD io.dst v ts) σ ds k | none => false)
            | .l i => (match evL E.P i ts σ with | some v => ops E ex ro.isSome ios' (putD io.dst v ts) σ ds k | none => false)
            | .a i => (match evA i ts with | some (B, v) => ops E ex ro.isSome ios' (putD io.dst (v σ.next) ts) (σ.add B) ds k | none => false)
            | .e i => (match i with
              | .dfr f args => (match ro.isSome, dfrA (f.ev ts) (evs ts args) with
                | false, some d => ops E ex ro.isSome ios' (putD io.dst .undef ts) σ (d :: ds) k
                | _, _ => false)
              | i => evE E ex i ts σ fun v σ => ops E ex ro.isSome ios' (putD io.dst v ts) σ ds k))
          | false => ops E ex ro.isSome ios' (putD io.dst .undef ts) σ ds k) = true := hk
        split at hk
        · rename_i hwt
          rw [if_pos hwt]
          refine ⟨fun _ _ => trivial, ?_⟩
          split at hk
          · rename_i pi hpi
            rw [hpi] at c1
            rw [hE.prog] at hk
            split at hk
            · rename_i v hv
              obtain ⟨u, h1, h2⟩ := evP_sound hOR c1 hv
              rw [Oper.semAt_eq _ _ _ (not_defer c1 (fun _ _ h => by cases h)), h2]
              exact go (hR.put c2 h1) (Ext.refl _ _) hk
            · cases hk
          · rename_i li hli
            rw [hli] at c1
            rw [hE.prog] at hk
            split at hk
            · rename_i v hv
              obtain ⟨u, h1, h2⟩ := evL_sound hgl (fun _ => rfl) hOR hR.hr c1 hv
              rw [Oper.semAt_eq _ _ _ (not_defer c1 (fun _ _ h => by cases h)), h2]
              exact go (hR.put c2 h1) (Ext.refl _ _) hk
            · cases hk
          · rename_i ai hai
            rw [hai] at c1
            split at hk
            · rename_i B mk hv
              obtain ⟨ob, size, u, d, h1, h2, h3⟩ := evA_makes hOR c1 hv w
              rw [Oper.semAt_eq _ _ _ (not_defer c1 (fun _ _ h => by cases h)), h3]
              have hm := (hR.hr.make B ob size (h1 _)).drew d
              have hX := Ext.make ρ σ B ⟨w.heap.size, 0, size⟩
              have hR2 := hR.ext hm hX
              exact go (hR2.put c2 (h2 _ _ (hR.hr.leOf hX) (by simp [upd]))) hX hk
            · cases hk
          · rename_i ei hei
            rw [hei] at c1
            split at hk
            · rename_i f args
              split at hk
              · rename_i d hro hd
                obtain rfl : ro = none := by cases ro with | none => rfl | some _ => cases hro
                rcases call_shape c1 (by simp [plainE]) with ⟨_, _, _, _, _, _, _, _, h⟩ | ⟨_, _, _, _, _, _, _, _, _, h⟩ | ⟨c, fo, fx, ax, hop, hcal, hf, hax, h⟩
                · cases h
                · cases h
                · cases h
                  have hfv := hOR _ _ hf
                  have hav := cXs_sound hOR hax
                  unfold dfrA at hd
                  split at hd
                  · rename_i g first caps ex'
                    cases hd
                    rw [ex'] at hfv
                    generalize hfo : a.eval fo = ufo at hfv
                    cases hfv with
                    | fn _ _ _ vs cs q1 q2 =>
                      have hrun : (execOp a.eval o).run P w = .ok (.defer { target := .fn (.func g) cs.toArray, args := vs.toArray ++ (List.map a.eval c.args.toList).toArray }) w := by
                        simp only [execOp, hop, resolve, hcal, arr_map, hfo, Deferred.ofValue, Sem.run_bind, Sem.run_pure, Result.andThen]
                      show o.uponIn (Wd none) 0 P a _ Q ((execOp a.eval o).run P w)
                      rw [hrun]
                      have hDR : DR P ρ (.fn g (first ++ (evs ts args ++ caps)) :: ds) ({ target := .fn (.func g) cs.toArray, args := vs.toArray ++ (List.map a.eval c.args.toList).toArray } :: a.defers) := by
                        refine ⟨⟨_, _, vs ++ (List.map a.eval c.args.toList ++ cs), rfl, q1.append (hav.append q2), fun w => ?_⟩, hR.df⟩
                        simp only [invoke]
                        congr 2
                        simp
                      have hR3 := Rel.mk (n := n) (a := { tmps := a.tmps, defers := { target := .fn (.func g) cs.toArray, args := vs.toArray ++ (List.map a.eval c.args.toList).toArray } :: a.defers }) hR.hr hR.tr hR.sz hDR
                      exact go (hR3.put c2 vr_undef) (Ext.refl _ _) hk
                  · cases hd
              · cases hk
            · rename_i hnd
              rw [Oper.semAt_eq _ _ _ (not_defer c1 (fun f x h => hnd f x (I.e.inj h)))]
              exact opE_sound hE hx c1 hOR hR.hr hk fun v σ' ρ' u w' h1 h2 h3 h4 => go ((hR.ext h3 h4).put c2 h2) h4 h1
        · rename_i hwt
          rw [if_neg (by rw [hwt]; simp)]
          exact ⟨fun _ _ => trivial, go (hR.put c2 vr_undef) (Ext.refl _ _) hk⟩
      · cases hc
    · cases hc
end
end Go.Proofs.YtjiaoppefinljaaGreatDoor.Ab

/- A run of our own tells of the program's. -/
namespace Go.Proofs.YtjiaoppefinljaaGreatDoor.Ab
open Go
variable {P : Program} {gl : Nat → Option AV} {F : Nat → Prop} {w0 : World} {ρ ρ' ρ0 : Rho} {σ σ' σ0 : St} {w w' : World} {n : Nat} {ts : Tr AV}

/-- regions that draw: shown apart -/
def DregOk (P : Program) (gl : Nat → Option AV) (F : Nat → Prop) (w0 : World) (E : Env) (ex : ExT) : Prop :=
  ∀ (o : Option Nat) (id : Nat) (os : Array Oper) (ios : List IOp) (l : List Ph) (n : Nat) (ts : Tr AV) (σ : St) (ds : List AD) (k : Tr AV → St → Bool) (ρ : Rho) (a : Act) (w : World) (Q : Exit → Act → World → Prop),
    cIOps P gl n os os.toList = some ios → cDraw os ios = some l → Rel P gl F w0 n ρ ts σ ds a w → phs E ex l ts σ k = true →
    (∀ ts' σ' ρ' a' w', k ts' σ' = true → Rel P gl F w0 n ρ' ts' σ' ds a' w' → Ext ρ σ ρ' σ' → Q .normal a' w') → (Code.region id os true).wpIn (Wd o) 0 P Q a w

section
variable {E : Env} {ex : ExT} (hE : EnvOk P gl F w0 E) (hx : ExOk P gl F w0 ex)
include hE hx
theorem rf_sound {g : Operand} {g' : X} {ps : Array Tmp} {pp : List (List Bool)} {assign body : Code} {ds : List AD} {k : KT} {a : Act} {Q : Exit → Act → World → Prop} (hR : Rel P gl F w0 n ρ ts σ ds a w) (hg : cX n g = some g') (hp : cPaths n ps.toList = some pp)
    (hk : rfA E ex (g'.ev ts) pp (comp P gl n assign) (comp P gl n body) ts σ ds k = true) (hQ : Post P gl F w0 k n ρ σ Q) : (Code.rangeFunc g ps assign body).wpIn (Wd none) 0 P Q a w := by
  have hgv := OR.of a hR.sz hR.tr _ _ hg
  have hn := hR.sz
  subst hn
  unfold rfA at hk
  split at hk
  · rename_i f first caps eg
    rw [eg] at hgv
    generalize heg : a.eval g = ug at hgv
    cases hgv with
    | fn _ _ _ vs cs q1 q2 =>
      split at hk
      · rename_i cf hcf
        obtain ⟨fn', c, k1, k2, k3, k4, k5, k6⟩ := cFn_spec (hE.fns f cf hcf)
        refine wpIn_rangeFunc (fun fn _ => ?_)
        -- two blocks are made
        have hH1 := hR.hr.make .dfr (.deferred (some [])) 0 rfl
        have hX1 := Ext.make ρ σ .dfr ⟨w.heap.size, 0, 0⟩
        let lp : Loop := { state := .ready, pending := none, fn, tmps := a.tmps, params := ps, assign, body, defers := w.heap.size }
        have hH2 := hH1.make (.loop false ts pp (comp P gl a.tmps.size assign) (comp P gl a.tmps.size body)) (.loop lp) 0 ⟨lp, rfl, rfl, rfl, hR.tr.mono (hR.hr.leOf hX1), hp, rfl, rfl⟩
        have hX2 := Ext.make (upd ρ σ.next ⟨w.heap.size, 0, 0⟩) (σ.add .dfr) (.loop false ts pp (comp P gl a.tmps.size assign) (comp P gl a.tmps.size body)) ⟨(w.alloc (.deferred (some []))).heap.size, 0, 0⟩
        have hX := hX1.trans hX2
        have hsz : (w.alloc (.deferred (some []))).heap.size = w.heap.size + 1 := by simp
        have hle := hR.hr.leOf hX
        have hnx : (σ.add .dfr).next = σ.next + 1 := St.next_add _ _
        have hargs := (q1.mono hle).append (.cons _ _ _ _ (.yld (σ.next + 1) ⟨(w.alloc (.deferred (some []))).heap.size, 0, 0⟩ (by rw [← hnx]; simp [upd])) (q2.mono hle))
        have hcall := callF_sound hE hx hk hargs hH2
        rw [k6] at hcall
        have hcall : CallsIn _ _ _ _ _ _ _ := hcall
        refine ⟨(w.alloc (.deferred (some []))).heap.size, [{ target := .collected w.heap.size, args := #[] }], (w.alloc (.deferred (some []))).alloc (.loop lp), { target := .fn (.func f) cs.toArray, args := vs.toArray ++ #[.func (.yield (w.alloc (.deferred (some []))).heap.size) #[] #[]] }, (w.alloc (.deferred (some []))).alloc (.loop lp), f, _, _, ?_, ?_, fun _ _ => trivial, ?_, wd_depth, hcall.mono ?_⟩
        · rfl
        · have em : (#[Operand.const (Value.func (Fn.yield (w.alloc (.deferred (some []))).heap.size) #[] #[])] : Array Operand).map a.eval = #[Value.func (Fn.yield (w.alloc (.deferred (some []))).heap.size) #[] #[]] := by
            apply Array.toList_inj.1
            simp [Act.eval]
          simp only [resolve, rangeCall, heg, Deferred.ofValue, em, Sem.run_pure]
        · simp only [invoke]
          have e : vs.toArray ++ #[Value.func (.yield (w.alloc (.deferred (some []))).heap.size) #[] #[]] ++ cs.toArray = (vs ++ Value.func (.yield (w.alloc (.deferred (some []))).heap.size) #[] #[] :: cs).toArray := by simp
          rw [e]
          exact k6 _ _
        · intro e w2 hr
          cases e with
          | returned u =>
            obtain ⟨v, σ2, ρ2, h1, h2, h3, h4⟩ := hr
            dsimp only at h1
            split at h1
            · rename_i ta pa aa ba hg2
              have hid : ρ2 (σ.next + 1) = some ⟨(w.alloc (.deferred (some []))).heap.size, 0, 0⟩ := by
                rw [h4.same _ (by rw [St.next_add, hnx]; exact Nat.lt_succ_self _), ← hnx]; simp [upd]
              have hid0 : ρ2 σ.next = some ⟨w.heap.size, 0, 0⟩ := by
                rw [h4.same _ (by rw [St.next_add, hnx]; omega)]
                unfold upd
                rw [if_neg (by rw [hnx]; omega), if_pos rfl]
              obtain ⟨o2, ho2, lp2, rfl, c1, c2, c3, c4, c5, c6⟩ := h3.blk _ _ _ hid hg2
              have hgo2 := run_getObj (P := P) ho2 (fun c e f => (by simp))
              have hso2 := fun o' => run_setObj (P := P) (o' := o') ho2 (fun c e f => (by simp))
              have hW2 := Wrote.setObj (w := w2) (o := .loop { lp2 with state := .exhausted }) (heap_lt ho2)
              have hH3 := h3.drop hid (by rw [show σ2.get (σ.next + 1) = _ from hg2]; simp) (nro_other (show σ2.get (σ.next + 1) = _ from hg2) (by simp)) hW2
              have hX3 := (hX.trans h4).trans (Ext.kill σ2 hid)
              have c1 : lp2.state = .ready := c1
              refine ⟨none, { w2 with heap := w2.heap.setIfInBounds (w.alloc (.deferred (some []))).heap.size (.loop { lp2 with state := .exhausted }) }, ?_, ?_⟩
              · have hb : (lp2.state == LoopState.busy) = false := by rw [c1]; rfl
                simp only [Instr.endLoop, Instr.getLoop, Sem.run_bind, hgo2, Result.andThen, Sem.run_pure, hb, Bool.false_eq_true, if_false, hso2, c2]
              · refine hQ .norm ts _ _ ρ2 _ _ h1 ⟨hH3, hR.tr.mono (hR.hr.leOf hX3), rfl, ⟨⟨_, hid0, rfl⟩, hR.df.mono (hR.hr.leOf hX3)⟩⟩ hX3
            · cases h1
          | panicked _ => exact hr.elim
          | outgrown => exact hr.elim
      · cases hk
  · cases hk
theorem step_sound (hgl : GlOk F w0 gl) (hd : DregOk P gl F w0 E ex) : ExOk P gl F w0 (stepC E ex) := by
  intro o c n ts σ ds k ρ a w Q hR hk hQ
  cases c with
  | skip => exact wpIn_skip (hQ .norm _ _ _ _ _ _ hk hR (Ext.refl _ _))
  | label l => exact wpIn_label (hQ .norm _ _ _ _ _ _ hk hR (Ext.refl _ _))
  | region id os draw =>
    simp only [comp] at hk
    split at hk
    · cases hk
    · rename_i ios hios
      cases draw with
      | false =>
        refine wpIn_region ?_
        rw [List.range_eq_range']
        have := ops_sound hE hx hgl os.toList 0 ios (fun j o h => by simpa using h) hios hR hk fun ts' σ' ds' ρ' a' w' h1 h2 h3 => hQ .norm ts' σ' ds' ρ' a' w' h1 h2 h3
        simpa using this
      | true =>
        simp only at hk
        split at hk
        · rename_i l hl
          exact hd o id os ios l n ts σ ds _ ρ a w Q hios hl hR hk fun ts' σ' ρ' a' w' h1 h2 h3 => hQ .norm ts' σ' ds ρ' a' w' h1 h2 h3
        · cases hk
  | seq x y =>
    refine wpIn_seq (hx o x n ts σ ds _ ρ a w _ hR hk fun e ts' σ' ds' ρ' a' w' h1 h2 h3 => ?_).wpIn
    cases e with
    | norm => exact (hx o y n ts' σ' ds' k ρ' a' w' Q h2 h1 fun e ts2 σ2 ds2 ρ2 a2 w2 g1 g2 g3 => hQ e ts2 σ2 ds2 ρ2 a2 w2 g1 g2 (h3.trans g3)).wpIn
    | exit id => exact hQ (.exit id) _ _ _ _ _ _ h1 h2 h3
    | ret => exact hQ .ret _ _ _ _ _ _ h1 h2 h3
  | cond c x y =>
    simp only [comp] at hk
    split at hk
    · rename_i c' hc
      have hv := OR.of a hR.sz hR.tr _ _ hc
      have hk : (match c'.ev ts with
        | .bool true => ex o.isSome (comp P gl n x) ts σ ds k
        | .bool false => ex o.isSome (comp P gl n y) ts σ ds k
        | _ => false) = true := hk
      split at hk
      · rename_i e
        rw [e] at hv
        generalize hg : a.eval c = u at hv
        cases hv
        exact wpIn_cond_true hg (hx o x n ts σ ds k ρ a w Q hR hk hQ).wpIn
      · rename_i e
        rw [e] at hv
        generalize hg : a.eval c = u at hv
        cases hv
        exact wpIn_cond_false hg (hx o y n ts σ ds k ρ a w Q hR hk hQ).wpIn
      · cases hk
    · cases hk
  | block id c =>
    refine wpIn_block (hx o c n ts σ ds _ ρ a w _ hR hk fun e ts' σ' ds' ρ' a' w' h1 h2 h3 => ?_).wpIn
    cases e with
    | norm => exact hQ .norm _ _ _ _ _ _ h1 h2 h3
    | exit i =>
      simp only [exitOf, Exit.inBlock]
      dsimp only at h1
      split at h1
      · rename_i e
        rw [if_pos (Nat.eq_of_beq_eq_true e)]
        exact hQ .norm _ _ _ _ _ _ h1 h2 h3
      · rename_i e
        rw [if_neg (fun e' => by rw [e'] at e; simp at e)]
        exact hQ (.exit i) _ _ _ _ _ _ h1 h2 h3
    | ret => exact hQ .ret _ _ _ _ _ _ h1 h2 h3
  | loop c =>
    refine loopWp_once (hx o c n ts σ ds _ ρ a w _ hR hk fun e ts' σ' ds' ρ' a' w' h1 h2 h3 => ?_).wpIn
    cases e with
    | norm => exact hx o (.loop c) n ts' σ' ds' k ρ' a' w' Q h2 h1 fun e ts2 σ2 ds2 ρ2 a2 w2 g1 g2 g3 => hQ e ts2 σ2 ds2 ρ2 a2 w2 g1 g2 (h3.trans g3)
    | exit id => exact hQ (.exit id) _ _ _ _ _ _ h1 h2 h3
    | ret => exact hQ .ret _ _ _ _ _ _ h1 h2 h3
  | scope c =>
    refine wpIn_scope (hx o c n ts σ ds _ ρ a w _ hR hk fun e ts' σ' ds' ρ' a' w' h1 h2 h3 => ?_).wpIn
    cases e with
    | norm => exact hQ .norm _ _ _ _ _ _ h1 h2 h3
    | exit id => exact hQ (.exit id) _ _ _ _ _ _ h1 h2 h3
    | ret => exact hQ .ret _ _ _ _ _ _ h1 h2 h3
  | exit id => exact wpIn_exit (hQ (.exit id) _ _ _ _ _ _ hk hR (Ext.refl _ _))
  | ret => exact wpIn_ret (hQ .ret _ _ _ _ _ _ hk hR (Ext.refl _ _))
  | goto l => cases hk
  | refuse s => cases hk
  | rangeFunc g ps assign body =>
    simp only [comp] at hk
    split at hk
    · rename_i g' pp hg hp
      cases o with
      | none => exact rf_sound hE hx hR hg hp hk hQ
      | some l => cases hk
    · cases hk
end
theorem exec_sound {E : Env} (hE : EnvOk P gl F w0 E) (hgl : GlOk F w0 gl) (hd : ∀ ex, ExOk P gl F w0 ex → DregOk P gl F w0 E ex) : ∀ fuel, ExOk P gl F w0 (exec E fuel)
  | 0 => fun _ _ _ _ _ _ _ _ _ _ _ _ hk _ => by cases hk
  | fuel + 1 => step_sound hE (exec_sound hE hgl hd fuel) hgl (hd _ (exec_sound hE hgl hd fuel))
end Go.Proofs.YtjiaoppefinljaaGreatDoor.Ab
