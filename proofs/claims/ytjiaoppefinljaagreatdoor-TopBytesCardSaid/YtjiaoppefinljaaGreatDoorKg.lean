/- What an operation looks at; what comes before for certain. -/
import Derived.Test.YtjiaoppefinljaaGreatDoorKf
import Derived.Below
set_option linter.unusedVariables false
set_option linter.unusedSimpArgs false
set_option linter.unusedSectionVars false
namespace Go.Proofs.YtjiaoppefinljaaGreatDoor.Ab
open Go
variable {P : Program} {T U : Tr AV}

/-- two trees agree on what is looked at -/
def Agr (ps : List (List Bool)) (T U : Tr AV) : Prop := ∀ q ∈ ps, X.ev T (.t q) = X.ev U (.t q)
theorem Agr.left {a b : List (List Bool)} (h : Agr (a ++ b) T U) : Agr a T U := fun q hq => h q (List.mem_append_left _ hq)
theorem Agr.right {a b : List (List Bool)} (h : Agr (a ++ b) T U) : Agr b T U := fun q hq => h q (List.mem_append_right _ hq)
theorem Agr.x {x : X} (h : Agr (pX x) T U) : x.ev T = x.ev U := by
  cases x with
  | t p => exact h p (by simp [pX])
  | c v => rfl
theorem Agr.xo {x : Option X} (h : Agr (pXo x) T U) : evo T x = evo U x := by
  cases x with
  | none => rfl
  | some x => simp only [evo]; rw [Agr.x h]
theorem Agr.xs : ∀ {l : List X}, Agr (pXs l) T U → evs T l = evs U l
  | [], _ => rfl
  | x :: l, h => by
    simp only [pXs] at h
    simp only [evs]; rw [h.left.x, Agr.xs h.right]
theorem Agr.parts : ∀ {l : List (Nat × Nat × X)}, Agr (pParts l) T U → ∀ z, bldA T l z = bldA U l z
  | [], _, z => rfl
  | (i, n, x) :: l, h, z => by
    simp only [pParts] at h
    simp only [bldA, h.left.x, Agr.parts h.right]
theorem Agr.partsL : ∀ {l : List (Nat × X)}, Agr (pPartsL l) T U → ∀ esz z, bslA T esz l z = bslA U esz l z
  | [], _, esz, z => rfl
  | (i, x) :: l, h, esz, z => by
    simp only [pPartsL] at h
    simp only [bslA, h.left.x, Agr.partsL h.right]
theorem Agr.min : ∀ {l : List X}, Agr (pXs l) T U → ∀ v, minA T l v = minA U l v
  | [], _, v => rfl
  | x :: l, h, v => by
    simp only [pXs] at h
    simp only [minA, h.left.x, Agr.min h.right]
theorem Agr.max : ∀ {l : List X}, Agr (pXs l) T U → ∀ v, maxA T l v = maxA U l v
  | [], _, v => rfl
  | x :: l, h, v => by
    simp only [pXs] at h
    simp only [maxA, h.left.x, Agr.max h.right]
theorem evP_agr {i : PI} (h : Agr (pP i) T U) : evP P i T = evP P i U := by
  cases i <;> simp only [pP] at h <;> simp only [evP]
  case pick => rw [h.left.x, h.right.left.x, h.right.right.x]
  case bin => rw [h.left.x, h.right.x]
  case mkf => rw [h.left.xs, h.right.xs]
  case iaA => rw [h.left.x, h.right.x]
  case iaS => rw [h.left.x, h.right.x]
  case idS => rw [h.left.x, h.right.x]
  case idA => rw [h.left.x, h.right.x]
  case slS => rw [h.left.x, h.right.left.xo, h.right.right.xo]
  case slL => rw [h.left.x, h.right.left.xo, h.right.right.left.xo, h.right.right.right.xo]
  case bld => rw [h.parts]
  case min => rw [h.left.x, h.right.min]
  case max => rw [h.left.x, h.right.max]
  all_goals rw [h.x]
theorem evL_agr {i : LI} {σ : St} (h : Agr (pL i) T U) : evL P i T σ = evL P i U σ := by
  cases i <;> simp only [pL] at h <;> simp only [evL]
  case lkp => rw [h.left.x, h.right.x]
  case slA => rw [h.left.x, h.right.left.xo, h.right.right.left.xo, h.right.right.right.xo]
  all_goals rw [h.x]
theorem evA_agr {i : AI} (h : Agr (pA i) T U) : evA i T = evA i U := by
  cases i <;> simp only [pA] at h <;> simp only [evA]
  case bsl => rw [h.partsL]
  case msl => rw [h.left.x, h.right.x]
  all_goals rw [h.x]
theorem evE_agr {E : Env} {ex : ExT} {i : EI} {σ : St} {k : AV → St → Bool} (h : Agr (pE i) T U) : evE E ex i T σ k = evE E ex i U σ k := by
  cases i <;> simp only [pE] at h <;> simp only [evE]
  case sto => rw [h.left.x, h.right.x]
  case app => rw [h.left.x, h.right.x]
  case cpy => rw [h.left.x, h.right.x]
  case mup => rw [h.left.x, h.right.left.x, h.right.right.x]
  case ust => rw [h.left.x, h.right.x]
  case call => rw [h.left.x, h.right.xs]
  case inv => rw [h.left.x, h.right.xs]
  all_goals rw [h.x]
theorem Agr.guard {o : IOp} (h : Agr (pIOp o) T U) : want o.guard T = want o.guard U := by
  unfold pIOp at h
  unfold want
  split
  · rfl
  · rename_i x b hg
    rw [hg] at h
    simp only at h
    rw [Agr.x h.left]
theorem Agr.op {o : IOp} (h : Agr (pIOp o) T U) : Agr (pI o.i) T U := by
  unfold pIOp at h
  split at h
  · exact h
  · exact h.right
theorem peq_spec : ∀ (a b : List Bool), peq a b = decide (a = b)
  | [], [] => rfl
  | [], _ :: _ => by simp [peq]
  | true :: a, [] => by simp [peq]
  | false :: a, [] => by simp [peq]
  | true :: a, true :: b => by simp [peq, peq_spec a b]
  | true :: a, false :: b => by simp [peq]
  | false :: a, true :: b => by simp [peq]
  | false :: a, false :: b => by simp [peq, peq_spec a b]
theorem pin_spec (p : List Bool) : ∀ (l : List (List Bool)), pin p l = true ↔ p ∈ l
  | [] => by simp [pin]
  | q :: l => by
    unfold pin
    have ih := pin_spec p l
    rw [peq_spec]
    by_cases e : p = q
    · simp [e]
    · simp [e, ih]

/-! ### What comes before for certain -/
theorem nthN_get : ∀ (l : List Nat) (i : Nat), nthN l i = l[i]?
  | [], i => by simp [nthN]
  | a :: l, 0 => rfl
  | a :: l, i + 1 => by simp [nthN, nthN_get l i]
theorem nthI_get : ∀ (l : List IOp) (i : Nat), nthI l i = l[i]?
  | [], i => by simp [nthI]
  | a :: l, 0 => rfl
  | a :: l, i + 1 => by simp [nthI, nthI_get l i]
/-- j's bit for i -/
def Bit (ms : List Nat) (j i : Nat) : Prop := Nat.testBit (bOf ms j) i = true
theorem bOf_get {ms : List Nat} {j m : Nat} (h : ms[j]? = some m) : bOf ms j = m := by simp [bOf, nthN_get, h]
theorem edM_spec {acc : List Nat} : ∀ {es : List Edge} {r : Nat}, edM acc es = some r → (∀ e ∈ es, Region.binds .any e = true → e.on < acc.length) ∧
    ∀ i, Nat.testBit r i = true → ∃ e ∈ es, Region.binds .any e = true ∧ (i = e.on ∨ ∃ m, acc[e.on]? = some m ∧ Nat.testBit m i = true)
  | [], r, h => by cases h; exact ⟨fun e he => (by cases he), fun i hi => (by simp at hi)⟩
  | e :: es, r, h => by
    unfold edM at h
    split at h
    · rename_i hb
      obtain ⟨h1, h2⟩ := edM_spec h
      refine ⟨fun e' he' hb' => ?_, fun i hi => ?_⟩
      · rcases List.mem_cons.1 he' with rfl | he'
        · rw [hb] at hb'; cases hb'
        · exact h1 e' he' hb'
      · obtain ⟨e', g1, g2⟩ := h2 i hi
        exact ⟨e', List.mem_cons_of_mem _ g1, g2⟩
    · rename_i hb
      split at h
      · rename_i m hm
        rw [nthN_get] at hm
        split at h
        · rename_i r' hr'
          cases h
          obtain ⟨h1, h2⟩ := edM_spec hr'
          refine ⟨fun e' he' hb' => ?_, fun i hi => ?_⟩
          · rcases List.mem_cons.1 he' with rfl | he'
            · exact (List.getElem?_eq_some_iff.1 hm).1
            · exact h1 e' he' hb'
          · have hi : Nat.testBit ((m ||| 2 ^ e.on) ||| r') i = true := hi
            rw [Nat.testBit_or, Nat.testBit_or, Nat.testBit_two_pow] at hi
            simp only [Bool.or_eq_true, decide_eq_true_eq] at hi
            rcases hi with (hi | hi) | hi
            · exact ⟨e, by simp, hb, .inr ⟨m, hm, hi⟩⟩
            · exact ⟨e, by simp, hb, .inl hi.symm⟩
            · obtain ⟨e', g1, g2⟩ := h2 i hi
              exact ⟨e', List.mem_cons_of_mem _ g1, g2⟩
        · cases h
      · cases h
/-- the masks of the first operations -/
def Good (os : Array Oper) (acc : List Nat) : Prop := ∀ j m, acc[j]? = some m → ∃ o, os[j]? = some o ∧ (∀ e ∈ o.after, Region.binds .any e = true → e.on < j) ∧
  ∀ i, Nat.testBit m i = true → ∃ e ∈ o.after, Region.binds .any e = true ∧ (i = e.on ∨ ∃ m', acc[e.on]? = some m' ∧ Nat.testBit m' i = true)
theorem masks_spec {os : Array Oper} : ∀ {l : List Oper} {acc ms : List Nat}, masks l acc = some ms → (∀ j o, l[j]? = some o → os[acc.length + j]? = some o) → Good os acc → Good os ms ∧ ms.length = acc.length + l.length
  | [], acc, ms, h, _, hg => by cases h; exact ⟨hg, rfl⟩
  | o :: l, acc, ms, h, ho, hg => by
    unfold masks at h
    split at h
    · rename_i m hm
      obtain ⟨h1, h2⟩ := edM_spec hm
      have hg' : Good os (acc ++ [m]) := by
        intro j m' hj
        by_cases hlt : j < acc.length
        · rw [List.getElem?_append_left hlt] at hj
          obtain ⟨o', g1, g2, g3⟩ := hg j m' hj
          refine ⟨o', g1, g2, fun i hi => ?_⟩
          obtain ⟨e, k1, k2, k3⟩ := g3 i hi
          refine ⟨e, k1, k2, k3.imp id fun ⟨m'', q1, q2⟩ => ⟨m'', ?_, q2⟩⟩
          rw [List.getElem?_append_left (List.getElem?_eq_some_iff.1 q1).1]; exact q1
        · have hj' : j = acc.length ∧ m' = m := by
            rw [List.getElem?_append_right (by omega)] at hj
            cases hz : j - acc.length with
            | zero => rw [hz] at hj; simp at hj; exact ⟨by omega, hj.symm⟩
            | succ q => rw [hz] at hj; simp at hj
          obtain ⟨rfl, rfl⟩ := hj'
          refine ⟨o, by simpa using ho 0 o rfl, fun e he hb => h1 e (by simpa using he) hb, fun i hi => ?_⟩
          obtain ⟨e, k1, k2, k3⟩ := h2 i hi
          refine ⟨e, by simpa using k1, k2, k3.imp id fun ⟨m'', q1, q2⟩ => ⟨m'', ?_, q2⟩⟩
          rw [List.getElem?_append_left (List.getElem?_eq_some_iff.1 q1).1]; exact q1
      have := masks_spec h (fun j o' hj => by
        have := ho (j + 1) o' (by simpa using hj)
        rw [show (acc ++ [m]).length + j = acc.length + (j + 1) by simp; omega]; exact this) hg'
      refine ⟨this.1, by rw [this.2]; simp; omega⟩
    · cases h
end Go.Proofs.YtjiaoppefinljaaGreatDoor.Ab

/- Regions that draw their order: what holds at any point of any order. -/
namespace Go.Proofs.YtjiaoppefinljaaGreatDoor.Ab
open Go
variable {P : Program} {gl : Nat → Option AV} {F : Nat → Prop} {w0 : World} {n : Nat}

theorem all2_sound {f : Nat} (ih : ∀ a b : AV, same f a b = true → a = b) : ∀ (l m : List AV), same.all2 f l m = true → l = m
  | [], [], _ => rfl
  | [], _ :: _, h => by simp [same.all2] at h
  | _ :: _, [], h => by simp [same.all2] at h
  | a :: l, b :: m, h => by
    unfold same.all2 at h
    split at h
    · rename_i h1
      rw [ih a b h1, all2_sound ih l m h]
    · cases h
theorem same_sound : ∀ (f : Nat) (a b : AV), same f a b = true → a = b := by
  intro f
  induction f with
  | zero => intro a b h; simp [same] at h
  | succ f ih =>
    intro a b h
    have hb : ∀ {x y : Nat}, Nat.beq x y = true → x = y := fun h => Nat.eq_of_beq_eq_true h
    cases a <;> cases b <;> simp only [same] at h <;> first | rfl | (cases h; done) | skip
    case int.int k x k' y =>
      split at h
      · rename_i hk
        rw [keq_spec] at hk
        rw [ieq_spec] at h
        rw [of_decide_eq_true hk, of_decide_eq_true h]
      · cases h
    case bool.bool x y => simpa using h
    case str.str x y => rw [leqL_spec] at h; rw [of_decide_eq_true h]
    case ptr.ptr => split at h <;> first | (rename_i hk; rw [hb hk, hb h]) | cases h
    case sl.sl =>
      simp only [Bool.and_eq_true] at h
      obtain ⟨h1, h2, h3, h4, h5, h6⟩ := h
      have h6 := eq_of_beq h6
      rw [hb h1, hb h2, hb h3, hb h4, hb h5, h6]
    case map.map => rw [hb h]
    case ifc.ifc => split at h <;> first | (rename_i hk; rw [hb hk, ih _ _ h]) | cases h
    case fn.fn =>
      split at h
      · rename_i hk
        split at h
        · rw [hb hk, all2_sound ih _ _ h]
        · cases h
      · cases h
    case agg.agg => rw [all2_sound ih _ _ h]

/-! ### What is listed -/
def Ls (listed : Array Bool) (i : Nat) : Prop := listed.getD i false = true
def Closed (os : Array Oper) (listed : Array Bool) : Prop := ∀ j o, os[j]? = some o → Ls listed j → ∀ e ∈ o.after, Region.binds .any e = true → Ls listed e.on
theorem bit_listed {os : Array Oper} {ms : List Nat} {listed : Array Bool} (hg : Good os ms) (hc : Closed os listed) : ∀ (N j : Nat), j ≤ N → ∀ o, os[j]? = some o → (∀ e ∈ o.after, Region.binds .any e = true → Ls listed e.on) → ∀ i, Bit ms j i → Ls listed i := by
  intro N
  induction N with
  | zero =>
    intro j hj o ho he i hb
    unfold Bit at hb
    cases hm : ms[j]? with
    | none => simp [bOf, nthN_get, hm] at hb
    | some m =>
      rw [bOf_get hm] at hb
      obtain ⟨o', g1, g2, g3⟩ := hg j m hm
      rw [ho] at g1; cases g1
      obtain ⟨e, k1, k2, k3⟩ := g3 i hb
      have := g2 e k1 k2
      omega
  | succ N ih =>
    intro j hj o ho he i hb
    unfold Bit at hb
    cases hm : ms[j]? with
    | none => simp [bOf, nthN_get, hm] at hb
    | some m =>
      rw [bOf_get hm] at hb
      obtain ⟨o', g1, g2, g3⟩ := hg j m hm
      rw [ho] at g1; cases g1
      obtain ⟨e, k1, k2, k3⟩ := g3 i hb
      have hlt := g2 e k1 k2
      rcases k3 with rfl | ⟨m', q1, q2⟩
      · exact he e k1 k2
      · obtain ⟨o2, r1, _⟩ := hg e.on m' q1
        exact ih e.on (by omega) o2 r1 (hc e.on o2 r1 (he e k1 k2)) i (by unfold Bit; rw [bOf_get q1]; exact q2)
theorem listed_bit {os : Array Oper} {ms : List Nat} {listed : Array Bool} (hg : Good os ms) (hc : Closed os listed) {j i : Nat} {o : Oper} (ho : os[j]? = some o) (hl : Ls listed j) (hb : Bit ms j i) : Ls listed i :=
  bit_listed hg hc j j (Nat.le_refl _) o ho (hc j o ho hl) i hb
/-- something is ready, unless all is listed -/
theorem ready_all {os : Array Oper} {ms : List Nat} {listed : Array Bool} (hg : Good os ms) (hlen : ms.length = os.size) (hsz : listed.size = os.size) (hr : Region.ready .any os listed = []) : ∀ (N j : Nat), j ≤ N → j < os.size → Ls listed j := by
  intro N
  induction N with
  | zero =>
    intro j hj hlt
    by_cases hl : Ls listed j
    · exact hl
    · exfalso
      have hm : j ∈ Region.ready .any os listed := by
        rw [mem_ready]
        refine ⟨?_, os[j], Array.getElem?_eq_getElem hlt, fun e he hb => ?_⟩
        · unfold Ls at hl
          simp [Array.getD_eq_getD_getElem?, Array.getElem?_eq_getElem (show j < listed.size by omega)] at hl ⊢
          exact hl
        · obtain ⟨o, g1, g2, _⟩ := hg j ms[j] (List.getElem?_eq_getElem (by omega))
          rw [Array.getElem?_eq_getElem hlt] at g1; cases g1
          have := g2 e he hb
          omega
      rw [hr] at hm; cases hm
  | succ N ih =>
    intro j hj hlt
    by_cases hl : Ls listed j
    · exact hl
    · exfalso
      have hm : j ∈ Region.ready .any os listed := by
        rw [mem_ready]
        refine ⟨?_, os[j], Array.getElem?_eq_getElem hlt, fun e he hb => ?_⟩
        · unfold Ls at hl
          simp [Array.getD_eq_getD_getElem?, Array.getElem?_eq_getElem (show j < listed.size by omega)] at hl ⊢
          exact hl
        · obtain ⟨o, g1, g2, _⟩ := hg j ms[j] (List.getElem?_eq_getElem (by omega))
          rw [Array.getElem?_eq_getElem hlt] at g1; cases g1
          have := g2 e he hb
          exact ih e.on (by omega) (by omega)
      rw [hr] at hm; cases hm

/-! ### A region -/
structure Reg (P : Program) (gl : Nat → Option AV) (n : Nat) (os : Array Oper) (ios : List IOp) (ms : List Nat) : Prop where
  cmp : ∀ (i : Nat) o, os[i]? = some o → ∃ io, ios[i]? = some io ∧ cIOp P gl n os o = some io
  len : ios.length = os.size
  good : Good os ms
  mlen : ms.length = os.size
  dst : ∀ (i : Nat) io li, ios[i]? = some io → io.i = .l li → io.dst ≠ none
  pair : ∀ (i : Nat) x (j : Nat) y d, ios[i]? = some x → ios[j]? = some y → x.dst = some d → (i = j → isL y.i = true → d ∉ pIOp y) ∧ (i ≠ j → y.dst ≠ some d ∧ (d ∈ pIOp y → Bit ms j i ∨ (Bit ms i j ∧ isL y.i = false)))
theorem pairs1_spec {i mi : Nat} {x : IOp} : ∀ {l : List IOp} {ms : List Nat} {j0 : Nat}, pairs1 i mi x l ms j0 = true → ∀ j y, l[j]? = some y → ∃ m, ms[j]? = some m ∧ pairOk i mi x (j0 + j) m y = true
  | [], ms, j0, _, j, y, h => by simp at h
  | a :: l, [], j0, h, _, _, _ => by cases h
  | a :: l, m :: ms, j0, h, j, y, hj => by
    unfold pairs1 at h
    split at h
    · rename_i hp
      cases j with
      | zero => cases hj; exact ⟨m, rfl, hp⟩
      | succ j =>
        obtain ⟨m', h1, h2⟩ := pairs1_spec h j y (by simpa using hj)
        exact ⟨m', by simpa using h1, by rw [show j0 + (j + 1) = j0 + 1 + j by omega]; exact h2⟩
    · cases h
theorem pairsOk_spec {ios : List IOp} {ms : List Nat} : ∀ {l : List IOp} {ns : List Nat} {i0 : Nat}, pairsOk ios ms l ns i0 = true → ∀ i x, l[i]? = some x → ∃ m, ns[i]? = some m ∧ pairs1 (i0 + i) m x ios ms 0 = true
  | [], ms, j0, _, j, y, h => by simp at h
  | a :: l, [], j0, h, _, _, _ => by cases h
  | a :: l, m :: ns, i0, h, i, x, hi => by
    unfold pairsOk at h
    split at h
    · rename_i hp
      cases i with
      | zero => cases hi; exact ⟨m, rfl, hp⟩
      | succ i =>
        obtain ⟨m', h1, h2⟩ := pairsOk_spec h i x (by simpa using hi)
        exact ⟨m', by simpa using h1, by rw [show i0 + (i + 1) = i0 + 1 + i by omega]; exact h2⟩
    · cases h
theorem cIOps_get {os : Array Oper} : ∀ {l : List Oper} {ios : List IOp}, cIOps P gl n os l = some ios → ios.length = l.length ∧ ∀ (i : Nat) o, l[i]? = some o → ∃ io, ios[i]? = some io ∧ cIOp P gl n os o = some io
  | [], ios, h => by cases h; exact ⟨rfl, fun i o h => by simp at h⟩
  | o :: l, ios, h => by
    unfold cIOps at h
    split at h
    · rename_i io hio
      split at h
      · rename_i r hr
        cases h
        obtain ⟨h1, h2⟩ := cIOps_get hr
        refine ⟨by simp [h1], fun i o' hi => ?_⟩
        cases i with
        | zero => cases hi; exact ⟨io, rfl, hio⟩
        | succ i => simpa using h2 i o' (by simpa using hi)
      · cases h
    · cases h
theorem reg_of {os : Array Oper} {ios : List IOp} {ms : List Nat} (hc : cIOps P gl n os os.toList = some ios) (hm : masks os.toList [] = some ms) (hd : ios.all hasDst = true) (hp : pairsOk ios ms ios ms 0 = true) : Reg P gl n os ios ms := by
  obtain ⟨h1, h2⟩ := cIOps_get hc
  obtain ⟨g1, g2⟩ := masks_spec (os := os) hm (fun j o h => by simpa using h) (fun j m h => by simp at h)
  refine ⟨fun i o h => h2 i o (by simpa using h), by simpa using h1, g1, by simpa using g2, fun i io li hi hl hn => ?_, fun i x j y d hi hj hdx => ?_⟩
  · have := List.all_eq_true.1 hd io (List.mem_of_getElem? hi)
    obtain ⟨ii, dd, gg⟩ := io
    cases hl
    cases hn
    cases this
  · obtain ⟨mi, k1, k2⟩ := pairsOk_spec hp i x hi
    obtain ⟨mj, k3, k4⟩ := pairs1_spec k2 j y hj
    simp only [Nat.zero_add] at k4
    unfold pairOk at k4
    rw [hdx] at k4
    simp only at k4
    refine ⟨fun e hl hin => ?_, fun e => ?_⟩
    · rw [e, Nat.beq_refl] at k4
      simp only [hl] at k4
      rw [(pin_spec _ _).2 hin] at k4
      cases k4
    · have hb : Nat.beq i j = false := by
        cases hq : Nat.beq i j with
        | false => rfl
        | true => exact absurd (Nat.eq_of_beq_eq_true hq) e
      rw [hb] at k4
      simp only [Bool.and_eq_true] at k4
      refine ⟨fun hy => ?_, fun hin => ?_⟩
      · rw [hy] at k4
        simp [peq_spec] at k4
      · rw [(pin_spec _ _).2 hin] at k4
        have := k4.2
        simp only [Bool.or_eq_true, Bool.and_eq_true, Bool.not_eq_true'] at this
        unfold Bit
        rw [bOf_get k1, bOf_get k3]
        exact this
end Go.Proofs.YtjiaoppefinljaaGreatDoor.Ab

/- Regions that draw their order: the phases. -/
namespace Go.Proofs.YtjiaoppefinljaaGreatDoor.Ab
open Go
variable {P : Program} {gl : Nat → Option AV} {F : Nat → Prop} {w0 : World} {n : Nat}

def Agree (ios : List IOp) (ms : List Nat) (ts0 : Tr AV) (i : Nat) (io : IOp) (T ts : Tr AV) : Prop :=
  ∀ q ∈ pIOp io, (∀ (j : Nat) y, ios[j]? = some y → y.dst = some q → Bit ms i j → X.ev T (.t q) = X.ev ts (.t q)) ∧
    ((∀ (j : Nat) y, ios[j]? = some y → y.dst = some q → ¬ Bit ms i j) → X.ev T (.t q) = X.ev ts0 (.t q))
/-- what an operation comes to, done at T -/
def Out (P : Program) (pend : Nat → Option (Nat × AB)) (i : Nat) (io : IOp) (ts T : Tr AV) : Prop :=
  (want io.guard T = false → ∀ d, io.dst = some d → X.ev ts (.t d) = .undef) ∧
  (want io.guard T = true → match io.i with
    | .p pi => ∃ v, evP P pi T = some v ∧ ∀ d, io.dst = some d → X.ev ts (.t d) = v
    | .l _ => True
    | .a ai => ∃ B mk id, evA ai T = some (B, mk) ∧ pend i = some (id, B) ∧ ∀ d, io.dst = some d → X.ev ts (.t d) = mk id
    | .e _ => True)
structure Inv (P : Program) (gl : Nat → Option AV) (F : Nat → Prop) (w0 : World) (n : Nat) (os : Array Oper) (ios : List IOp) (ms : List Nat) (ts0 : Tr AV) (σ0 : St) (ρ0 : Rho) (ds : List AD)
    (listed : Array Bool) (placed : Nat) (pend : Nat → Option (Nat × AB)) (ts V : Tr AV) (σ : St) (ρ : Rho) (a : Act) (w : World) : Prop where
  rel : Rel P gl F w0 n ρ V σ ds a w
  ext : Ext ρ0 σ0 ρ σ
  lsz : listed.size = os.size
  lcl : Closed os listed
  lp : ∀ i, Ls listed i → Nat.testBit placed i = true
  pcl : ∀ j i, Nat.testBit placed j = true → Bit ms j i → Nat.testBit placed i = true
  pe : ∀ (i : Nat) io, ios[i]? = some io → Nat.testBit placed i = true → isE io.i = true → Ls listed i
  v1 : ∀ (j : Nat) y q, ios[j]? = some y → y.dst = some q → Ls listed j → X.ev V (.t q) = X.ev ts (.t q)
  v2 : ∀ q, (∀ (j : Nat) y, ios[j]? = some y → y.dst = some q → ¬ Ls listed j) → X.ev V (.t q) = X.ev ts0 (.t q)
  c1 : ∀ q, (∀ (j : Nat) y, ios[j]? = some y → y.dst = some q → ¬ Nat.testBit placed j = true) → X.ev ts (.t q) = X.ev ts0 (.t q)
  fact : ∀ (i : Nat) io, ios[i]? = some io → Nat.testBit placed i = true → isE io.i = false → ∀ T, Agree ios ms ts0 i io T ts → Out P pend i io ts T
  pn : ∀ i id B, pend i = some (id, B) → Nat.testBit placed i = true ∧ σ0.next ≤ id ∧ id < σ.next ∧ (¬ Ls listed i → ρ id = none ∧ σ.get id = some B)
  inj : ∀ i j id B B', pend i = some (id, B) → pend j = some (id, B') → i = j

variable {os : Array Oper} {ios : List IOp} {ms : List Nat} {ts0 : Tr AV} {σ0 : St} {ρ0 : Rho} {ds : List AD} {listed : Array Bool} {placed placed' : Nat} {pend : Nat → Option (Nat × AB)} {ts V : Tr AV} {σ : St} {ρ : Rho} {a : Act} {w : World}

theorem ev_putD (d : Option (List Bool)) (v : AV) (ts : Tr AV) (q : List Bool) : X.ev (putD d v ts) (.t q) = if d = some q then v else X.ev ts (.t q) := by
  cases d with
  | none => simp [putD]
  | some p =>
    simp only [putD, X.ev, get_put, Option.some.injEq]
    by_cases e : q = p
    · subst e; simp
    · rw [if_neg e, if_neg (fun h => e h.symm)]
theorem bit_or (p i j : Nat) : Nat.testBit (Nat.lor p (Nat.pow 2 i)) j = true ↔ (Nat.testBit p j = true ∨ j = i) := by
  show Nat.testBit (p ||| 2 ^ i) j = true ↔ _
  rw [Nat.testBit_or, Nat.testBit_two_pow]
  simp only [Bool.or_eq_true, decide_eq_true_eq]
  constructor
  · rintro (h | h)
    · exact .inl h
    · exact .inr h.symm
  · rintro (h | h)
    · exact .inl h
    · exact .inr h.symm
theorem land_sub {m p : Nat} (h : Nat.beq (Nat.land m p) m = true) {i : Nat} (hi : Nat.testBit m i = true) : Nat.testBit p i = true := by
  have h := Nat.eq_of_beq_eq_true h
  have h : m &&& p = m := h
  rw [← h, Nat.testBit_and] at hi
  simp only [Bool.and_eq_true] at hi
  exact hi.2

section
variable (R : Reg P gl n os ios ms)
include R
/-- one more operation is placed: what was known stays -/
theorem Inv.fact_put (h : Inv P gl F w0 n os ios ms ts0 σ0 ρ0 ds listed placed pend ts V σ ρ a w) {i0 : Nat} {io0 : IOp} (hi0 : ios[i0]? = some io0) (hnp : ¬ Nat.testBit placed i0 = true) (v : AV) {pend' : Nat → Option (Nat × AB)} (hpd : ∀ i x, pend i = some x → pend' i = some x) :
    ∀ (i : Nat) io, ios[i]? = some io → Nat.testBit placed i = true → isE io.i = false → ∀ T, Agree ios ms ts0 i io T (putD io0.dst v ts) → Out P pend' i io (putD io0.dst v ts) T := by
  intro i io hi hp he T hA
  have hne : i ≠ i0 := fun e => hnp (e ▸ hp)
  have hs : ∀ (j : Nat) y q, ios[j]? = some y → Nat.testBit placed j = true → y.dst = some q → X.ev (putD io0.dst v ts) (.t q) = X.ev ts (.t q) := fun j y q hj hpj hy => by
    rw [ev_putD, if_neg]
    intro e
    exact ((R.pair i0 io0 j y q hi0 hj e).2 (fun e' => hnp (e' ▸ hpj))).1 hy
  have hA' : Agree ios ms ts0 i io T ts := fun q hq => ⟨fun j y hj hy hb => by
    rw [(hA q hq).1 j y hj hy hb]
    exact hs j y q hj (h.pcl i j hp hb) hy, (hA q hq).2⟩
  obtain ⟨o1, o2⟩ := h.fact i io hi hp he T hA'
  refine ⟨fun hw d hd => by rw [hs i io d hi hp hd]; exact o1 hw d hd, fun hw => ?_⟩
  have := o2 hw
  split at this
  · obtain ⟨u, g1, g2⟩ := this
    exact ⟨u, g1, fun d hd => by rw [hs i io d hi hp hd]; exact g2 d hd⟩
  · trivial
  · obtain ⟨B, mk, id, g1, g2, g3⟩ := this
    exact ⟨B, mk, id, g1, hpd _ _ g2, fun d hd => by rw [hs i io d hi hp hd]; exact g3 d hd⟩
  · trivial
/-- an operation, done where it stands in our own order -/
theorem Inv.agree_now (h : Inv P gl F w0 n os ios ms ts0 σ0 ρ0 ds listed placed pend ts V σ ρ a w) {i0 : Nat} {io0 : IOp} (hi0 : ios[i0]? = some io0) (hnp : ¬ Nat.testBit placed i0 = true) (hsub : ∀ j, Bit ms i0 j → Nat.testBit placed j = true) (v : AV) {T : Tr AV}
    (hA : Agree ios ms ts0 i0 io0 T (putD io0.dst v ts)) : Agr (pIOp io0) T ts := by
  intro q hq
  by_cases hw : ∃ j y, ios[j]? = some y ∧ y.dst = some q ∧ Bit ms i0 j
  · obtain ⟨j, y, hj, hy, hb⟩ := hw
    rw [(hA q hq).1 j y hj hy hb, ev_putD, if_neg]
    intro e
    exact ((R.pair i0 io0 j y q hi0 hj e).2 (fun e' => hnp (e' ▸ hsub j hb))).1 hy
  · rw [(hA q hq).2 (fun j y hj hy hb => hw ⟨j, y, hj, hy, hb⟩)]
    refine (h.c1 q fun j y hj hy hp => ?_).symm
    have hne : j ≠ i0 := fun e => hnp (e ▸ hp)
    rcases ((R.pair j y i0 io0 q hj hi0 hy).2 hne).2 hq with hb | ⟨hb, _⟩
    · exact hw ⟨j, y, hj, hy, hb⟩
    · exact hnp (h.pcl j i0 hp hb)
/-- what is placed anew, its value known -/
theorem Inv.place (h : Inv P gl F w0 n os ios ms ts0 σ0 ρ0 ds listed placed pend ts V σ ρ a w) {i0 : Nat} {io0 : IOp} (hi0 : ios[i0]? = some io0) (hne : isE io0.i = false) (hnp : ¬ Nat.testBit placed i0 = true) (hsub : ∀ j, Bit ms i0 j → Nat.testBit placed j = true) {v : AV} {σ' : St} {pend' : Nat → Option (Nat × AB)}
    (hpd : ∀ i x, pend i = some x → pend' i = some x) (hout : Out P pend' i0 io0 (putD io0.dst v ts) ts) (hr : HR P gl F w0 ρ σ' w) (hX : Ext ρ σ ρ σ')
    (hpn : ∀ i id B, pend' i = some (id, B) → pend i = some (id, B) ∨ (i = i0 ∧ id = σ.next ∧ id < σ'.next ∧ σ'.get id = some B)) (hget : ∀ id, id < σ.next → σ'.get id = σ.get id) :
    Inv P gl F w0 n os ios ms ts0 σ0 ρ0 ds listed (Nat.lor placed (Nat.pow 2 i0)) pend' (putD io0.dst v ts) V σ' ρ a w where
  rel := ⟨hr, h.rel.tr, h.rel.sz, h.rel.df⟩
  ext := h.ext.trans hX
  lsz := h.lsz
  lcl := h.lcl
  lp := fun i hi => (bit_or _ _ _).2 (.inl (h.lp i hi))
  pcl := fun j i hj hb => by
    rcases (bit_or _ _ _).1 hj with hj | rfl
    · exact (bit_or _ _ _).2 (.inl (h.pcl j i hj hb))
    · exact (bit_or _ _ _).2 (.inl (hsub i hb))
  pe := fun i io hi hp he => by
    rcases (bit_or _ _ _).1 hp with hp | rfl
    · exact h.pe i io hi hp he
    · rw [hi0] at hi; cases hi; rw [hne] at he; cases he
  v1 := fun j y q hj hy hl => by
    rw [h.v1 j y q hj hy hl, ev_putD, if_neg]
    intro e
    exact ((R.pair i0 io0 j y q hi0 hj e).2 (fun e' => hnp (e' ▸ h.lp j hl))).1 hy
  v2 := h.v2
  c1 := fun q hq => by
    rw [ev_putD, if_neg (fun e => hq i0 io0 hi0 e ((bit_or _ _ _).2 (.inr rfl)))]
    exact h.c1 q fun j y hj hy hp => hq j y hj hy ((bit_or _ _ _).2 (.inl hp))
  fact := fun i io hi hp he T hA => by
    by_cases e : i = i0
    · subst e
      rw [hi0] at hi; cases hi
      have hag := h.agree_now R hi0 hnp hsub v hA
      obtain ⟨o1, o2⟩ := hout
      refine ⟨fun hw => o1 (by rw [← hag.guard]; exact hw), fun hw => ?_⟩
      have := o2 (by rw [← hag.guard]; exact hw)
      have hop := hag.op
      split
      · rename_i pi e
        rw [e] at this hop
        simp only [pI] at this hop
        rw [evP_agr hop]; exact this
      · trivial
      · rename_i ai e
        rw [e] at this hop
        simp only [pI] at this hop
        rw [evA_agr hop]; exact this
      · trivial
    · rcases (bit_or _ _ _).1 hp with hp | hp
      · exact h.fact_put R hi0 hnp v hpd i io hi hp he T hA
      · exact absurd hp e
  pn := fun i id B hi => by
    rcases hpn i id B hi with hi | ⟨rfl, rfl, h1, h2⟩
    · obtain ⟨g1, g2, g3, g4⟩ := h.pn i id B hi
      exact ⟨(bit_or _ _ _).2 (.inl g1), g2, Nat.lt_of_lt_of_le g3 hX.le, fun hl => ⟨(g4 hl).1, by rw [hget id g3]; exact (g4 hl).2⟩⟩
    · exact ⟨(bit_or _ _ _).2 (.inr rfl), h.ext.le, h1, fun _ => ⟨h.rel.hr.none_next, h2⟩⟩
  inj := fun i j id B B' hi hj => by
    rcases hpn i id B hi with hi | ⟨rfl, rfl, h1, h2⟩
    · rcases hpn j id B' hj with hj | ⟨rfl, rfl, h1, h2⟩
      · exact h.inj i j id B B' hi hj
      · exact absurd (h.pn i _ B hi).2.2.1 (Nat.lt_irrefl _)
    · rcases hpn j _ B' hj with hj | ⟨rfl, _, _, _⟩
      · exact absurd (h.pn j _ B' hj).2.2.1 (Nat.lt_irrefl _)
      · rfl
end
end Go.Proofs.YtjiaoppefinljaaGreatDoor.Ab

/- Regions that draw their order: what is done early; readings done again. -/
namespace Go.Proofs.YtjiaoppefinljaaGreatDoor.Ab
open Go
variable {P : Program} {gl : Nat → Option AV} {F : Nat → Prop} {w0 : World} {n : Nat}
variable {os : Array Oper} {ios : List IOp} {ms : List Nat} {ts0 : Tr AV} {σ0 : St} {ρ0 : Rho} {ds : List AD} {listed : Array Bool} {placed placed' : Nat} {pend : Nat → Option (Nat × AB)} {ts V : Tr AV} {σ : St} {ρ : Rho} {a : Act} {w : World}
section
variable (R : Reg P gl n os ios ms)
include R
theorem early_sound {k : Tr AV → St → Bool} : ∀ {ns : List Nat} {nsI : List IOp} {placed placed' : Nat} {ts : Tr AV} {σ : St} {pend : Nat → Option (Nat × AB)}, nsOk ms ns placed = some placed' → pick_ ios ns = some nsI → early P nsI ts σ k = true →
    Inv P gl F w0 n os ios ms ts0 σ0 ρ0 ds listed placed pend ts V σ ρ a w → ∃ pend' ts' σ', k ts' σ' = true ∧ Inv P gl F w0 n os ios ms ts0 σ0 ρ0 ds listed placed' pend' ts' V σ' ρ a w
  | [], nsI, placed, placed', ts, σ, pend, hn, hp, hk, h => by
    cases hn; cases hp
    exact ⟨pend, ts, σ, hk, h⟩
  | i0 :: ns, nsI, placed, placed', ts, σ, pend, hn, hp, hk, h => by
    unfold nsOk at hn
    split at hn
    · rename_i hc
      simp only [Bool.and_eq_true, Bool.not_eq_true'] at hc
      have hnp : ¬ Nat.testBit placed i0 = true := by rw [hc.2]; simp
      have hsub : ∀ j, Bit ms i0 j → Nat.testBit placed j = true := fun j hb => land_sub hc.1 hb
      unfold pick_ at hp
      split at hp
      · rename_i io0 hi0
        rw [nthI_get] at hi0
        split at hp
        · cases hp
        · rename_i hne
          split at hp
          · rename_i r hr
            cases hp
            have hk : (match want io0.guard ts with
              | true => (match io0.i with
                | .p i => (match evP P i ts with | some v => early P r (putD io0.dst v ts) σ k | none => false)
                | .l i => (match evL P i ts σ with | some v => early P r (putD io0.dst v ts) σ k | none => false)
                | .a i => (match evA i ts with | some (B, v) => early P r (putD io0.dst (v σ.next) ts) (σ.add B) k | none => false)
                | .e _ => false)
              | false => early P r (putD io0.dst .undef ts) σ k) = true := hk
            have hself : ∀ v, ∀ d, io0.dst = some d → X.ev (putD io0.dst v ts) (.t d) = v := fun v d hd => by rw [ev_putD, if_pos hd]
            split at hk
            · rename_i hw
              split at hk
              · rename_i pi hpi
                split at hk
                · rename_i v hv
                  exact early_sound hn hr hk (h.place R hi0 hne hnp hsub (v := v) (pend' := pend) (fun _ _ h => h) ⟨fun hf => (by rw [hw] at hf; cases hf), fun _ => (by rw [hpi]; exact ⟨v, hv, hself v⟩)⟩ h.rel.hr (Ext.refl _ _) (fun _ _ _ h => .inl h) (fun _ _ => rfl))
                · cases hk
              · rename_i li hli
                split at hk
                · rename_i v hv
                  exact early_sound hn hr hk (h.place R hi0 hne hnp hsub (v := v) (pend' := pend) (fun _ _ h => h) ⟨fun hf => (by rw [hw] at hf; cases hf), fun _ => (by rw [hli]; trivial)⟩ h.rel.hr (Ext.refl _ _) (fun _ _ _ h => .inl h) (fun _ _ => rfl))
                · cases hk
              · rename_i ai hai
                split at hk
                · rename_i B mk hv
                  have hnone : pend i0 = none := by
                    cases hq : pend i0 with
                    | none => rfl
                    | some x => exact absurd (h.pn i0 x.1 x.2 hq).1 hnp
                  have hX : Ext ρ σ ρ (σ.add B) := ⟨by rw [St.next_add]; omega, fun _ _ => rfl, fun id hid _ => by rw [St.get_add, if_neg (by omega)]⟩
                  refine early_sound hn hr hk (h.place R hi0 hne hnp hsub (v := mk σ.next) (σ' := σ.add B) (pend' := fun i => if i = i0 then some (σ.next, B) else pend i) (fun i x hx => ?_) ⟨fun hf => (by rw [hw] at hf; cases hf), fun _ => (by rw [hai]; exact ⟨B, mk, σ.next, hv, by simp, hself _⟩)⟩ (h.rel.hr.addA B) hX (fun i id B' hi => ?_) (fun id hid => ?_))
                  · by_cases e : i = i0
                    · subst e; rw [hnone] at hx; cases hx
                    · simp only [if_neg e]; exact hx
                  · by_cases e : i = i0
                    · simp only [if_pos e, Option.some.injEq, Prod.mk.injEq] at hi
                      obtain ⟨rfl, rfl⟩ := hi
                      exact .inr ⟨e, rfl, by rw [St.next_add]; omega, by rw [St.get_add, if_pos rfl]⟩
                    · simp only [if_neg e] at hi
                      exact .inl hi
                  · rw [St.get_add, if_neg (by omega)]
                · cases hk
              · cases hk
            · rename_i hw
              exact early_sound hn hr hk (h.place R hi0 hne hnp hsub (v := .undef) (pend' := pend) (fun _ _ h => h) ⟨fun _ => hself _, fun hf => (by rw [hw] at hf; cases hf)⟩ h.rel.hr (Ext.refl _ _) (fun _ _ _ h => .inl h) (fun _ _ => rfl))
          · cases hp
      · cases hp
    · cases hn
end
/-- readings done again come to the same -/
theorem rechk_spec {ts : Tr AV} {σ : St} : ∀ {l : List (LI × List Bool × Option (X × Bool))}, rechk P l ts σ = true → ∀ li d g, (li, d, g) ∈ l → want g ts = true → evL P li ts σ = some (X.ev ts (.t d))
  | [], _, _, _, _, h, _ => by cases h
  | (i, d0, g0) :: l, hk, li, d, g, hm, hw => by
    unfold rechk at hk
    rcases List.mem_cons.1 hm with e | hm
    · cases e
      rw [hw] at hk
      simp only at hk
      split at hk
      · rename_i v hv
        split at hk
        · rename_i hs
          rw [hv, same_sound _ _ _ hs]
        · cases hk
      · cases hk
    · split at hk
      · split at hk
        · split at hk
          · exact rechk_spec hk li d g hm hw
          · cases hk
        · cases hk
      · exact rechk_spec hk li d g hm hw
theorem rsOf_mem {prevm placed : Nat} : ∀ {l : List IOp} {i0 i : Nat} {io : IOp} {li : LI} {d : List Bool}, l[i]? = some io → io.i = .l li → io.dst = some d → Nat.testBit placed (i0 + i) = true → ¬ Nat.testBit prevm (i0 + i) = true → (li, d, io.guard) ∈ rsOf prevm placed l i0
  | [], _, _, _, _, _, h, _, _, _, _ => by simp at h
  | x :: l, i0, i, io, li, d, h, h1, h2, h3, h4 => by
    unfold rsOf
    cases i with
    | zero =>
      cases h
      simp only [Nat.add_zero] at h3 h4
      rw [h3, Bool.not_eq_true] at *
      simp [h4, h1, h2]
    | succ i =>
      have ih := rsOf_mem (i0 := i0 + 1) (i := i) (l := l) (by simpa using h) h1 h2 (by rw [show i0 + 1 + i = i0 + (i + 1) by omega]; exact h3) (by rw [show i0 + 1 + i = i0 + (i + 1) by omega]; exact h4)
      split
      · split
        · split
          · exact List.mem_cons_of_mem _ ih
          · exact ih
        · exact ih
      · exact ih
theorem laterOk_spec {placed e : Nat} : ∀ {l : List Nat} {i0 : Nat}, laterOk placed e l i0 = true → ∀ i m, l[i]? = some m → Nat.testBit placed (i0 + i) = true ∨ Nat.testBit m e = true
  | [], _, _, _, _, h => by simp at h
  | x :: l, i0, hk, i, m, h => by
    unfold laterOk at hk
    split at hk
    · rename_i hc
      cases i with
      | zero => cases h; simpa using hc
      | succ i =>
        have := laterOk_spec hk i m (by simpa using h)
        rw [show i0 + (i + 1) = i0 + 1 + i by omega]; exact this
    · cases hk
theorem fullOk_spec {placed : Nat} : ∀ {l : List IOp} {i0 : Nat}, fullOk placed l i0 = true → ∀ i, i < l.length → Nat.testBit placed (i0 + i) = true
  | [], _, _, i, h => by simp at h
  | x :: l, i0, hk, i, h => by
    unfold fullOk at hk
    split at hk
    · rename_i hc
      cases i with
      | zero => exact hc
      | succ i =>
        have := fullOk_spec hk i (by simpa using h)
        rw [show i0 + (i + 1) = i0 + 1 + i by omega]; exact this
    · cases hk
end Go.Proofs.YtjiaoppefinljaaGreatDoor.Ab

/- Regions that draw their order: whatever order is drawn. -/
namespace Go.Proofs.YtjiaoppefinljaaGreatDoor.Ab
open Go
variable {P : Program} {gl : Nat → Option AV} {F : Nat → Prop} {w0 : World} {n : Nat}
variable {os : Array Oper} {ios : List IOp} {ms : List Nat} {ts0 : Tr AV} {σ0 : St} {ρ0 : Rho} {ds : List AD} {listed : Array Bool} {placed placed' : Nat} {pend : Nat → Option (Nat × AB)} {ts V : Tr AV} {σ σ' : St} {ρ ρ' : Rho} {a a' : Act} {w w' : World}

theorem ls_set {i j : Nat} (hi : i < listed.size) : Ls (listed.setIfInBounds i true) j ↔ Ls listed j ∨ j = i := by
  unfold Ls
  by_cases e : i = j
  · subst e
    simp [hi]
  · rw [getD_set_ne false e]
    constructor
    · exact fun h => .inl h
    · rintro (h | h)
      · exact h
      · exact absurd h.symm e
section
variable (R : Reg P gl n os ios ms)
include R
theorem Inv.list (h : Inv P gl F w0 n os ios ms ts0 σ0 ρ0 ds listed placed pend ts V σ ρ a w) {i : Nat} {io : IOp} {o : Oper} (hi : ios[i]? = some io) (ho : os[i]? = some o) (hpl : Nat.testBit placed i = true) (hnl : ¬ Ls listed i)
    (hed : ∀ e ∈ o.after, Region.binds .any e = true → Ls listed e.on) {v : AV} (hv : ∀ d, io.dst = some d → X.ev ts (.t d) = v) (hrel : Rel P gl F w0 n ρ' (putD io.dst v V) σ ds a' w') (hX : Ext ρ0 σ0 ρ' σ)
    (hpn : ∀ j id B, pend j = some (id, B) → j ≠ i → ρ id = none → ρ' id = none) : Inv P gl F w0 n os ios ms ts0 σ0 ρ0 ds (listed.setIfInBounds i true) placed pend ts (putD io.dst v V) σ ρ' a' w' := by
  have hlt : i < listed.size := by rw [h.lsz]; exact (Array.getElem?_eq_some_iff.1 ho).1
  have hls := fun j => ls_set (listed := listed) (j := j) hlt
  refine ⟨hrel, hX, by simpa using h.lsz, fun j oj hj hl e he hb => (hls _).2 (.inl ?_), fun j hj => ?_, h.pcl, fun j y hj hp he => (hls j).2 (.inl (h.pe j y hj hp he)), fun j y q hj hy hl => ?_, fun q hq => ?_, h.c1, h.fact, fun j id B hj => ?_, h.inj⟩
  · rcases (hls j).1 hl with hl | rfl
    · exact h.lcl j oj hj hl e he hb
    · rw [ho] at hj; cases hj; exact hed e he hb
  · rcases (hls j).1 hj with hj | rfl
    · exact h.lp j hj
    · exact hpl
  · rcases (hls j).1 hl with hl | rfl
    · rw [ev_putD, if_neg]
      · exact h.v1 j y q hj hy hl
      · intro e
        exact ((R.pair i io j y q hi hj e).2 (fun e' => hnl (e' ▸ hl))).1 hy
    · rw [hi] at hj; cases hj
      rw [ev_putD, if_pos hy]; exact (hv q hy).symm
  · rw [ev_putD, if_neg (fun e => hq i io hi e ((hls i).2 (.inr rfl)))]
    exact h.v2 q fun j y hj hy hl => hq j y hj hy ((hls j).2 (.inl hl))
  · obtain ⟨g1, g2, g3, g4⟩ := h.pn j id B hj
    refine ⟨g1, g2, g3, fun hl => ?_⟩
    have hl' : ¬ Ls listed j := fun hh => hl ((hls j).2 (.inl hh))
    have hne : j ≠ i := fun e => hl ((hls j).2 (.inr e))
    exact ⟨hpn j id B hj hne (g4 hl').1, (g4 hl').2⟩
theorem Inv.act (h : Inv P gl F w0 n os ios ms ts0 σ0 ρ0 ds listed placed pend ts V σ ρ a w) {i : Nat} {io : IOp} {o : Oper} (hi : ios[i]? = some io) (ho : os[i]? = some o) (hE : isE io.i = true) (hnp : ¬ Nat.testBit placed i = true) (hsub : ∀ j, Bit ms i j → Nat.testBit placed j = true)
    (hed : ∀ e ∈ o.after, Region.binds .any e = true → Ls listed e.on) {v : AV} (hrel : Rel P gl F w0 n ρ' (putD io.dst v V) σ' ds a' w') (hX : Ext ρ σ ρ' σ') :
    Inv P gl F w0 n os ios ms ts0 σ0 ρ0 ds (listed.setIfInBounds i true) (Nat.lor placed (Nat.pow 2 i)) pend (putD io.dst v ts) (putD io.dst v V) σ' ρ' a' w' := by
  have hnl : ¬ Ls listed i := fun hl => hnp (h.lp i hl)
  have hlt : i < listed.size := by rw [h.lsz]; exact (Array.getElem?_eq_some_iff.1 ho).1
  have hls := fun j => ls_set (listed := listed) (j := j) hlt
  refine ⟨hrel, h.ext.trans hX, by simpa using h.lsz, fun j oj hj hl e he hb => (hls _).2 (.inl ?_), fun j hj => ?_, fun j q hj hb => ?_, fun j y hj hp he => ?_, fun j y q hj hy hl => ?_, fun q hq => ?_, fun q hq => ?_, fun j y hj hp he => ?_, fun j id B hj => ?_, h.inj⟩
  · rcases (hls j).1 hl with hl | rfl
    · exact h.lcl j oj hj hl e he hb
    · rw [ho] at hj; cases hj; exact hed e he hb
  · rcases (hls j).1 hj with hj | rfl
    · exact (bit_or _ _ _).2 (.inl (h.lp j hj))
    · exact (bit_or _ _ _).2 (.inr rfl)
  · rcases (bit_or _ _ _).1 hj with hj | rfl
    · exact (bit_or _ _ _).2 (.inl (h.pcl j q hj hb))
    · exact (bit_or _ _ _).2 (.inl (hsub q hb))
  · rcases (bit_or _ _ _).1 hp with hp | rfl
    · exact (hls j).2 (.inl (h.pe j y hj hp he))
    · exact (hls _).2 (.inr rfl)
  · rcases (hls j).1 hl with hl | rfl
    · have hne : ¬ io.dst = some q := fun e => ((R.pair i io j y q hi hj e).2 (fun e' => hnl (e' ▸ hl))).1 hy
      rw [ev_putD, ev_putD, if_neg hne, if_neg hne]
      exact h.v1 j y q hj hy hl
    · rw [hi] at hj; cases hj
      rw [ev_putD, ev_putD, if_pos hy, if_pos hy]
  · rw [ev_putD, if_neg (fun e => hq i io hi e ((hls i).2 (.inr rfl)))]
    exact h.v2 q fun j y hj hy hl => hq j y hj hy ((hls j).2 (.inl hl))
  · rw [ev_putD, if_neg (fun e => hq i io hi e ((bit_or _ _ _).2 (.inr rfl)))]
    exact h.c1 q fun j y hj hy hp => hq j y hj hy ((bit_or _ _ _).2 (.inl hp))
  · rcases (bit_or _ _ _).1 hp with hp | rfl
    · exact h.fact_put R hi hnp v (fun _ _ h => h) j y hj hp he
    · rw [hi] at hj; cases hj; rw [hE] at he; cases he
  · obtain ⟨g1, g2, g3, g4⟩ := h.pn j id B hj
    refine ⟨(bit_or _ _ _).2 (.inl g1), g2, Nat.lt_of_lt_of_le g3 hX.le, fun hl => ?_⟩
    have hl' : ¬ Ls listed j := fun hh => hl ((hls j).2 (.inl hh))
    obtain ⟨q1, q2⟩ := g4 hl'
    exact ⟨by rw [hX.same id g3]; exact q1, by rw [hX.un id g3 q1]; exact q2⟩

/-- what lies ahead -/
structure Stg (P : Program) (os : Array Oper) (ios : List IOp) (ms : List Nat) (E : Env) (ex : ExT) (k : Tr AV → St → Bool) (listed : Array Bool) (placed : Nat) (ts : Tr AV) (σ : St) : Prop where
  rl : ∀ (i : Nat) io li d, ios[i]? = some io → io.i = .l li → io.dst = some d → Nat.testBit placed i = true → ¬ Ls listed i → want io.guard ts = true → evL P li ts σ = some (X.ev ts (.t d))
  nx : ((∀ i, i < os.size → Nat.testBit placed i = true) ∧ k ts σ = true) ∨ ∃ e o l r, ios[e]? = some o ∧ isE o.i = true ∧ (∀ i, Bit ms e i → Nat.testBit placed i = true) ∧ ¬ Nat.testBit placed e = true ∧
    (∀ i, i < os.size → Nat.testBit placed i = true ∨ i = e ∨ Bit ms i e) ∧ mkPh ms ios l (bOf ms e) (Nat.lor placed (Nat.pow 2 e)) = some r ∧
    (match want o.guard ts with
      | true => (match o.i with | .e i => evE E ex i ts σ fun v σ => phs E ex r (putD o.dst v ts) σ k | _ => false)
      | false => phs E ex r (putD o.dst .undef ts) σ k) = true
theorem settle {E : Env} {ex : ExT} {k : Tr AV → St → Bool} (hE : E.P = P) {pls : List Pl} {prevm : Nat} {phl : List Ph} (hm : mkPh ms ios pls prevm placed = some phl) (hk : phs E ex phl ts σ k = true) (h : Inv P gl F w0 n os ios ms ts0 σ0 ρ0 ds listed placed pend ts V σ ρ a w)
    (hpv : ∀ i, Nat.testBit prevm i = true → Ls listed i) : ∃ placed' pend' ts' σ', Inv P gl F w0 n os ios ms ts0 σ0 ρ0 ds listed placed' pend' ts' V σ' ρ a w ∧ Stg P os ios ms E ex k listed placed' ts' σ' := by
  unfold mkPh at hm
  split at hm
  · cases hm
  · rename_i pl l
    split at hm
    · rename_i placed1 hns
      split at hm
      · rename_i ns hpick
        split at hm
        · rename_i hpe
          split at hm
          · rename_i hfull
            cases hm
            simp only [phs] at hk
            rw [hE] at hk
            obtain ⟨pend', ts', σ', h1, h2⟩ := early_sound R hns hpick hk h
            split at h1
            · rename_i hrc
              refine ⟨placed1, pend', ts', σ', h2, fun i io li d hi hl hd hp hnl hw => ?_, .inl ⟨fun i hi => by simpa using fullOk_spec hfull i (by rw [R.len]; exact hi), h1⟩⟩
              exact rechk_spec hrc li d _ (rsOf_mem hi hl hd (by simpa using hp) (by simpa using fun hb => hnl (hpv i hb))) hw
            · cases h1
          · cases hm
        · rename_i e hpe
          split at hm
          · rename_i hc
            simp only [Bool.and_eq_true, Bool.not_eq_true'] at hc
            split at hm
            · rename_i o ho
              rw [nthI_get] at ho
              split at hm
              · rename_i hisE
                split at hm
                · rename_i r hr
                  cases hm
                  simp only [phs] at hk
                  rw [hE] at hk
                  obtain ⟨pend', ts', σ', h1, h2⟩ := early_sound R hns hpick hk h
                  split at h1
                  · rename_i hrc
                    refine ⟨placed1, pend', ts', σ', h2, fun i io li d hi hl hd hp hnl hw => ?_, .inr ⟨e, o, l, r, ho, hisE, fun i hb => land_sub hc.1 hb, by rw [hc.2.1]; simp, fun i hi => ?_, hr, h1⟩⟩
                    · exact rechk_spec hrc li d _ (rsOf_mem hi hl hd (by simpa using hp) (by simpa using fun hb => hnl (hpv i hb))) hw
                    · have hil : i < ms.length := by rw [R.mlen]; exact hi
                      have hmi : ms[i]? = some ms[i] := List.getElem?_eq_getElem hil
                      rcases laterOk_spec hc.2.2 i _ hmi with hl | hl
                      · rw [Nat.zero_add] at hl
                        rcases (bit_or _ _ _).1 hl with hl | hl
                        · exact .inl hl
                        · exact .inr (.inl hl)
                      · exact .inr (.inr (by unfold Bit; rw [bOf_get hmi]; exact hl))
                  · cases h1
                · cases hm
              · cases hm
            · cases hm
          · cases hm
      · cases hm
    · cases hm
end
end Go.Proofs.YtjiaoppefinljaaGreatDoor.Ab

/- Regions that draw their order: whatever order is drawn. -/
namespace Go.Proofs.YtjiaoppefinljaaGreatDoor.Ab
open Go
variable {P : Program} {gl : Nat → Option AV} {F : Nat → Prop} {w0 : World} {n : Nat}
variable {os : Array Oper} {ios : List IOp} {ms : List Nat} {ts0 : Tr AV} {σ0 : St} {ρ0 : Rho} {ds : List AD} {listed : Array Bool} {placed placed' : Nat} {pend : Nat → Option (Nat × AB)} {ts V : Tr AV} {σ σ' : St} {ρ ρ' : Rho} {a a' : Act} {w w' : World}

theorem TR.same {tmps : Array Value} (h : TR ρ V tmps) (he : ∀ q, X.ev V (.t q) = X.ev ts (.t q)) : TR ρ ts tmps := fun t ht => by rw [← he]; exact h t ht
section
variable (R : Reg P gl n os ios ms)
include R
/-- all is listed -/
theorem Inv.done (h : Inv P gl F w0 n os ios ms ts0 σ0 ρ0 ds listed placed pend ts V σ ρ a w) {E : Env} {ex : ExT} {k : Tr AV → St → Bool} (hs : Stg P os ios ms E ex k listed placed ts σ) (hall : ∀ i, i < os.size → Ls listed i) :
    k ts σ = true ∧ Rel P gl F w0 n ρ ts σ ds a w := by
  have hts : ∀ q, X.ev V (.t q) = X.ev ts (.t q) := fun q => by
    by_cases hw : ∃ (j : Nat) (y : IOp), ios[j]? = some y ∧ y.dst = some q
    · obtain ⟨j, y, hj, hy⟩ := hw
      exact h.v1 j y q hj hy (hall j (by rw [← R.len]; exact (List.getElem?_eq_some_iff.1 hj).1))
    · rw [h.v2 q fun j y hj hy => absurd ⟨j, y, hj, hy⟩ hw, h.c1 q fun j y hj hy => absurd ⟨j, y, hj, hy⟩ hw]
  rcases hs.nx with ⟨_, hk⟩ | ⟨e, o, l, r, ho, _, _, hnp, _⟩
  · exact ⟨hk, h.rel.hr, h.rel.tr.same hts, h.rel.sz, h.rel.df⟩
  · exact absurd (h.lp e (hall e (by rw [← R.len]; exact (List.getElem?_eq_some_iff.1 ho).1))) hnp
theorem any_sound {E : Env} {ex : ExT} (hE : EnvOk P gl F w0 E) (hx : ExOk P gl F w0 ex) (hgl : GlOk F w0 gl) {ro : Option Nat} {Q : Exit → Act → World → Prop} {k : Tr AV → St → Bool}
    (hQ : ∀ ts' σ' ρ' a' w', k ts' σ' = true → Rel P gl F w0 n ρ' ts' σ' ds a' w' → Ext ρ0 σ0 ρ' σ' → Q .normal a' w') : ∀ (fuel : Nat) (U : List Nat) (listed : Array Bool) (placed : Nat) (pend : Nat → Option (Nat × AB)) (ts V : Tr AV) (σ : St) (ρ : Rho) (a : Act) (w : World),
    U.length ≤ fuel → (∀ i, i < os.size → ¬ Ls listed i → i ∈ U) → Inv P gl F w0 n os ios ms ts0 σ0 ρ0 ds listed placed pend ts V σ ρ a w → Stg P os ios ms E ex k listed placed ts σ → wpAnyIn (Wd ro) 0 P .any os Q fuel listed a w := by
  intro fuel
  induction fuel with
  | zero =>
    intro U listed placed pend ts V σ ρ a w hU hin h hs
    have hall : ∀ i, i < os.size → Ls listed i := fun i hi => by
      by_cases hl : Ls listed i
      · exact hl
      · have := hin i hi hl
        have hU0 : U = [] := List.eq_nil_of_length_eq_zero (by omega)
        rw [hU0] at this
        cases this
    obtain ⟨h1, h2⟩ := h.done R hs hall
    refine ⟨?_, hQ _ _ _ _ _ h1 h2 h.ext⟩
    apply List.eq_nil_iff_forall_not_mem.2
    intro i hi
    obtain ⟨g1, o, g2, _⟩ := mem_ready.1 hi
    have hlt := (Array.getElem?_eq_some_iff.1 g2).1
    have := hall i hlt
    unfold Ls at this
    rw [Array.getD_eq_getD_getElem?, Array.getElem?_eq_getElem (show i < listed.size by rw [h.lsz]; exact hlt)] at this g1
    simp at this g1
    rw [this] at g1; cases g1
  | succ fuel ih =>
    intro U listed placed pend ts V σ ρ a w hU hin h hs
    refine ⟨fun hr => ?_, fun i hi => ?_⟩
    · obtain ⟨h1, h2⟩ := h.done R hs (fun i hi => ready_all R.good R.mlen h.lsz hr i i (Nat.le_refl _) hi)
      exact hQ _ _ _ _ _ h1 h2 h.ext
    · obtain ⟨g1, o, ho, hed⟩ := mem_ready.1 hi
      have hlt := (Array.getElem?_eq_some_iff.1 ho).1
      have hnl : ¬ Ls listed i := fun hl => by
        unfold Ls at hl
        rw [Array.getD_eq_getD_getElem?, Array.getElem?_eq_getElem (show i < listed.size by rw [h.lsz]; exact hlt)] at hl g1
        simp at hl g1
        rw [hl] at g1; cases g1
      have hed : ∀ e ∈ o.after, Region.binds .any e = true → Ls listed e.on := hed
      have hbits : ∀ j, Bit ms i j → Ls listed j := fun j hb => bit_listed R.good h.lcl i i (Nat.le_refl _) o ho hed j hb
      obtain ⟨io, hio, hcomp⟩ := R.cmp i o ho
      obtain ⟨c1, c2, c3⟩ := cIOp_spec hcomp
      have hU' : (U.erase i).length ≤ fuel := by
        have := List.length_erase_of_mem (hin i hlt hnl)
        omega
      have hin' : ∀ j, j < os.size → ¬ Ls (listed.setIfInBounds i true) j → j ∈ U.erase i := fun j hj hl => by
        have hls := fun j => ls_set (listed := listed) (i := i) (j := j) (by rw [h.lsz]; exact hlt)
        have hne : j ≠ i := fun e => hl ((hls j).2 (.inr e))
        exact (List.mem_erase_of_ne hne).2 (hin j hj fun hh => hl ((hls j).2 (.inl hh)))
      have hOR : OR ρ n V a.eval := OR.of a h.rel.sz h.rel.tr
      have hw := want_sound (tmps := a.tmps) (os := os) (o := o) (by rw [h.rel.sz]; exact c3) h.rel.tr
      unfold wpOpIn
      simp only [ho]
      rw [hw]
      by_cases hpl : Nat.testBit placed i = true
      · -- what was done early
        have hnE : isE io.i = false := by
          cases hq : isE io.i with
          | false => rfl
          | true => exact absurd (h.pe i io hio hpl hq) hnl
        have hag : Agree ios ms ts0 i io V ts := fun q hq => ⟨fun j y hj hy hb => h.v1 j y q hj hy (hbits j hb), fun hnw => h.v2 q fun j y hj hy hl => by
          have hne : j ≠ i := fun e => hnl (e ▸ hl)
          rcases ((R.pair j y i io q hj hio hy).2 hne).2 hq with hb | ⟨hb, _⟩
          · exact hnw j y hj hy hb
          · exact hnl (listed_bit R.good h.lcl (os[j]?.get (by
              have := R.len; have hjl := (List.getElem?_eq_some_iff.1 hj).1
              rw [Array.getElem?_eq_getElem (by omega)]; rfl) |> fun _ => Array.getElem?_eq_getElem (show j < os.size by rw [← R.len]; exact (List.getElem?_eq_some_iff.1 hj).1)) hl hb)⟩
        have hs' : Stg P os ios ms E ex k (listed.setIfInBounds i true) placed ts σ := ⟨fun j y li d hj hl hd hp hnl' => hs.rl j y li d hj hl hd hp fun hh => hnl' ((ls_set (by rw [h.lsz]; exact hlt)).2 (.inl hh)), hs.nx⟩
        obtain ⟨o1, o2⟩ := h.fact i io hio hpl hnE V hag
        -- a value comes out, the state stays
        have go : ∀ (v : AV) (u : Value), VR ρ v u → (∀ d, io.dst = some d → X.ev ts (.t d) = v) → wpAnyIn (Wd ro) 0 P .any os Q fuel (listed.setIfInBounds i true) (a.put o.dst u) w := fun v u hu hv =>
          ih _ _ _ _ _ _ _ _ _ _ hU' hin' (h.list R hio ho hpl hnl hed hv (h.rel.put c2 hu) h.ext (fun _ _ _ _ _ hn => hn)) hs'
        cases hwt : want io.guard V with
        | false =>
          rw [if_neg (by simp)]
          exact ⟨fun _ _ => trivial, go .undef undef vr_undef (o1 hwt)⟩
        | true =>
          rw [if_pos rfl]
          refine ⟨fun _ _ => trivial, ?_⟩
          have o2 := o2 hwt
          split at o2
          · rename_i pi hpi
            rw [hpi] at c1
            obtain ⟨v, hv, hd⟩ := o2
            obtain ⟨u, h1, h2⟩ := evP_sound hOR c1 hv
            rw [Oper.semAt_eq _ _ _ (not_defer c1 (fun _ _ h => by cases h)), h2]
            exact go v u h1 hd
          · rename_i li hli
            rw [hli] at c1
            obtain ⟨d, hd⟩ : ∃ d, io.dst = some d := by
              cases hq : io.dst with
              | none => exact absurd hq (R.dst i io li hio hli)
              | some d => exact ⟨d, rfl⟩
            have hagr : Agr (pIOp io) V ts := fun q hq => by
              by_cases hwr : ∃ (j : Nat) (y : IOp), ios[j]? = some y ∧ y.dst = some q
              · obtain ⟨j, y, hj, hy⟩ := hwr
                by_cases e : j = i
                · exact absurd hq ((R.pair j y i io q hj hio hy).1 e (by rw [hli]; rfl))
                · rcases ((R.pair j y i io q hj hio hy).2 e).2 hq with hb | ⟨_, hb⟩
                  · exact h.v1 j y q hj hy (hbits j hb)
                  · rw [hli] at hb; cases hb
              · rw [h.v2 q fun j y hj hy => absurd ⟨j, y, hj, hy⟩ hwr, h.c1 q fun j y hj hy => absurd ⟨j, y, hj, hy⟩ hwr]
            have hl := hs.rl i io li d hio hli hd hpl hnl (by rw [← hagr.guard]; exact hwt)
            have hop := hagr.op
            rw [hli] at hop
            rw [← evL_agr (show Agr (pL li) V ts from hop)] at hl
            obtain ⟨u, h1, h2⟩ := evL_sound hgl (fun _ => rfl) hOR h.rel.hr c1 hl
            rw [Oper.semAt_eq _ _ _ (not_defer c1 (fun _ _ h => by cases h)), h2]
            exact go _ u h1 (fun d' hd' => by rw [hd] at hd'; cases hd'; rfl)
          · rename_i ai hai
            rw [hai] at c1
            obtain ⟨B, mk, id, hv, hpd, hd⟩ := o2
            obtain ⟨ob, size, u, dr, h1, h2, h3⟩ := evA_makes hOR c1 hv w
            rw [Oper.semAt_eq _ _ _ (not_defer c1 (fun _ _ h => by cases h)), h3]
            obtain ⟨p1, p2, p3, p4⟩ := h.pn i id B hpd
            obtain ⟨p5, p6⟩ := p4 hnl
            have hH := (h.rel.hr.alloc (o := ob) (n := size) p5 p3 (fun B' hB' => by rw [p6] at hB'; cases hB'; exact h1 _)).drew dr
            have hle : Le ρ (upd ρ id ⟨w.heap.size, 0, size⟩) := Le.upd _ p5
            have hR : Rel P gl F w0 n (upd ρ id ⟨w.heap.size, 0, size⟩) V σ ds a _ := ⟨hH, h.rel.tr.mono hle, h.rel.sz, h.rel.df.mono hle⟩
            have hX : Ext ρ0 σ0 (upd ρ id ⟨w.heap.size, 0, size⟩) σ := ⟨h.ext.le, fun j hj => by unfold upd; rw [if_neg (by omega)]; exact h.ext.same j hj, h.ext.un⟩
            refine ih _ _ _ _ _ _ _ _ _ _ hU' hin' (h.list R hio ho hpl hnl hed hd (hR.put c2 (h2 _ _ hle (by simp [upd]))) hX (fun j id' B' hj hne hn => ?_)) hs'
            unfold upd
            rw [if_neg (fun (e : id' = id) => hne (h.inj j i id' B' B hj (by rw [e]; exact hpd)))]
            exact hn
          · rename_i ei hei
            rw [hei] at hnE; cases hnE
      · -- the act
        rcases hs.nx with ⟨hfull, _⟩ | ⟨e, oe, l, r, hoe, hisE, hsub, hnp, hlater, hmk, hk⟩
        · exact absurd (hfull i hlt) hpl
        · have hie : i = e := by
            rcases hlater i hlt with h1 | h1 | h1
            · exact absurd h1 hpl
            · exact h1
            · exact absurd (h.lp e (hbits e h1)) hnp
          subst hie
          rw [hio] at hoe; cases hoe
          have hagr : Agr (pIOp io) V ts := fun q hq => by
            by_cases hwr : ∃ (j : Nat) (y : IOp), ios[j]? = some y ∧ y.dst = some q ∧ Ls listed j
            · obtain ⟨j, y, hj, hy, hl⟩ := hwr
              exact h.v1 j y q hj hy hl
            · rw [h.v2 q fun j y hj hy hl => hwr ⟨j, y, hj, hy, hl⟩]
              refine (h.c1 q fun j y hj hy hp => ?_).symm
              have hne : j ≠ i := fun e => hpl (e ▸ hp)
              rcases ((R.pair j y i io q hj hio hy).2 hne).2 hq with hb | ⟨hb, _⟩
              · exact hwr ⟨j, y, hj, hy, hbits j hb⟩
              · exact hpl (h.pcl j i hp hb)
          have fin : ∀ (v : AV) (σ' : St) (ρ' : Rho) (u : Value) (w' : World), phs E ex r (putD io.dst v ts) σ' k = true → VR ρ' v u → HR P gl F w0 ρ' σ' w' → Ext ρ σ ρ' σ' → wpAnyIn (Wd ro) 0 P .any os Q fuel (listed.setIfInBounds i true) (a.put o.dst u) w' := fun v σ' ρ' u w' hk hu hH hX => by
            have hinv := h.act R hio ho hisE hnp hsub hed ((h.rel.ext hH hX).put c2 hu) hX
            obtain ⟨placed2, pend2, ts2, σ2, q1, q2⟩ := settle R hE.prog hmk hk hinv (fun j hb => (ls_set (by rw [h.lsz]; exact hlt)).2 (.inl (hbits j hb)))
            exact ih _ _ _ _ _ _ _ _ _ _ hU' hin' q1 q2
          rw [← hagr.guard] at hk
          cases hwt : want io.guard V with
          | false =>
            rw [hwt] at hk
            rw [if_neg (by simp)]
            exact ⟨fun _ _ => trivial, fin .undef σ ρ undef w hk vr_undef h.rel.hr (Ext.refl _ _)⟩
          | true =>
            rw [hwt] at hk
            rw [if_pos rfl]
            refine ⟨fun _ _ => trivial, ?_⟩
            simp only at hk
            split at hk
            · rename_i ei hei
              have hop := hagr.op
              rw [hei] at hop c1
              rw [← evE_agr (show Agr (pE ei) V ts from hop)] at hk
              rw [Oper.semAt_eq _ _ _ (not_defer c1 (fun f x e => by cases e; simp only [evE] at hk; cases hk))]
              exact opE_sound hE hx c1 hOR h.rel.hr hk fun v σ' ρ' u w' h1 h2 h3 h4 => fin v σ' ρ' u w' h1 h2 h3 h4
            · cases hk
end
theorem dreg_sound {E : Env} {ex : ExT} (hE : EnvOk P gl F w0 E) (hx : ExOk P gl F w0 ex) (hgl : GlOk F w0 gl) (hm : P.follows .mixedOrders = true) : DregOk P gl F w0 E ex := by
  intro o id os ios l n ts σ ds k ρ a w Q hc hd hR hk hQ
  unfold cDraw at hd
  split at hd
  · rename_i ms hms
    split at hd
    · rename_i hck
      simp only [Bool.and_eq_true] at hck
      have R := reg_of hc hms hck.1 hck.2
      refine wpIn_region_any hm ?_
      have hl0 : ∀ i, ¬ Ls (Array.replicate os.size false) i := fun i hl => by
        unfold Ls at hl
        simp [Array.getD_eq_getD_getElem?, Array.getElem?_replicate] at hl
        split at hl <;> simp at hl
      have h0 : Inv P gl F w0 n os ios ms ts σ ρ ds (Array.replicate os.size false) 0 (fun _ => none) ts ts σ ρ a { w with drawn := w.drawn + 1 } := by
        refine ⟨⟨hR.hr.drew _, hR.tr, hR.sz, hR.df⟩, Ext.refl _ _, by simp, fun j o hj hl => absurd hl (hl0 j), fun i hl => absurd hl (hl0 i), fun j i hj => (by simp at hj), fun i io hi hp => (by simp at hp), fun j y q _ _ hl => absurd hl (hl0 j), fun _ _ => rfl, fun _ _ => rfl, fun i io hi hp => (by simp at hp), fun i id B h => (by cases h), fun i j id B B' h => (by cases h)⟩
      obtain ⟨placed, pend, ts', σ', q1, q2⟩ := settle R hE.prog hd hk h0 (fun i hi => by simp at hi)
      exact any_sound R hE hx hgl hQ os.size (List.range os.size) _ _ _ _ _ _ _ _ _ (by simp) (fun i hi _ => List.mem_range.2 hi) q1 q2
    · cases hd
  · cases hd
end Go.Proofs.YtjiaoppefinljaaGreatDoor.Ab

/- Answers known beforehand: a function run alone, once for all. -/
namespace Go.Proofs.YtjiaoppefinljaaGreatDoor.Ab
open Go
variable {P : Program} {gl : Nat → Option AV} {F : Nat → Prop} {w0 : World} {ρ ρ' : Rho} {σ σ' : St} {w w' : World}

/-- values that bear no number of a block -/
def clo1 : AV → Bool
  | .int _ _ => true
  | .bool _ => true
  | .str _ => true
  | .nilp => true
  | .nils => true
  | .nilm => true
  | .nilf => true
  | .nili => true
  | _ => false
def cloL : List AV → Bool
  | [] => true
  | v :: l => match clo1 v with | true => cloL l | false => false
def clo : AV → Bool
  | .agg l => cloL l
  | .tup l => cloL l
  | v => clo1 v
theorem clo1_any {v : AV} {u : Value} (h : clo1 v = true) (hv : VR ρ v u) : VR ρ' v u := by
  cases hv with
  | int k n => exact .int k n
  | bool b => exact .bool b
  | str s hs => exact .str s hs
  | nilp => exact .nilp
  | nils => exact .nils
  | nilm => exact .nilm
  | nilf => exact .nilf
  | nili => exact .nili
  | _ => cases h
theorem cloL_any : ∀ {l : List AV} {us : List Value}, cloL l = true → VRs ρ l us → VRs ρ' l us
  | [], _, _, h => by cases h; exact .nil
  | v :: l, _, hc, h => by
    cases h with
    | cons _ u _ us h1 h2 =>
      unfold cloL at hc
      split at hc
      · rename_i h3
        exact .cons _ _ _ _ (clo1_any h3 h1) (cloL_any hc h2)
      · cases hc
theorem clo_any {v : AV} {u : Value} (h : clo v = true) (hv : VR ρ v u) : VR ρ' v u := by
  unfold clo at h
  split at h
  · cases hv with | agg _ us h1 => exact .agg _ _ (cloL_any h h1)
  · cases hv with | tup _ us h1 => exact .tup _ _ (cloL_any h h1)
  · exact clo1_any h hv

/-- what lay there lies there still -/
structure Kept (w w' : World) : Prop where
  os : w'.os = w.os
  tape : w'.tape = w.tape
  out : w'.output = w.output
  size : w.heap.size ≤ w'.heap.size
  heap : ∀ b, b < w.heap.size → w'.heap[b]? = w.heap[b]?
theorem HR.keep (h : HR P gl F w0 ρ σ w) (k : Kept w w') : HR P gl F w0 ρ σ w' where
  os := k.os.trans h.os
  tape := k.tape.trans h.tape
  out := k.out.trans h.out
  size := Nat.le_trans h.size k.size
  frame := fun b hf => ⟨(h.frame b hf).1, by rw [k.heap b (Nat.lt_of_lt_of_le (h.frame b hf).1 h.size)]; exact (h.frame b hf).2⟩
  dom := fun id L hi => ⟨(h.dom id L hi).1, Nat.lt_of_lt_of_le (h.dom id L hi).2.1 k.size, (h.dom id L hi).2.2⟩
  blk := fun id L B hi hg => by
    obtain ⟨o, ho, hb⟩ := h.blk id L B hi hg
    exact ⟨o, by rw [k.heap _ (h.dom id L hi).2.1]; exact ho, hb⟩
  inj := h.inj
/-- all that lies there is out of reach, or is read alone -/
def Old (w : World) (b : Nat) : Prop := b < w.heap.size
theorem kept_of (h : HR P gl (Old w) w ρ σ w') : Kept w w' := ⟨h.os, h.tape, h.out, h.size, fun b hb => (h.frame b hb).2⟩
theorem hr_none (P : Program) (gl : Nat → Option AV) (w : World) (nx : Nat) : HR P gl (Old w) w (fun _ => none) ⟨.lf, nx⟩ w where
  os := rfl
  tape := rfl
  out := rfl
  size := Nat.le_refl _
  frame := fun _ hb => ⟨hb, rfl⟩
  dom := fun _ _ h => by cases h
  blk := fun _ _ _ h => by cases h
  inj := fun _ _ _ _ h => by cases h
/-- what a run of a function alone comes to -/
def isV (r : AV) (v : AV) (_ : St) : Bool := match clo v with | true => same 10 v r | false => false
theorem isV_spec {r v : AV} {σ : St} (h : isV r v σ = true) : clo r = true ∧ v = r := by
  unfold isV at h
  split at h
  · rename_i hc
    have := same_sound _ _ _ h
    subst this
    exact ⟨hc, rfl⟩
  · cases h
/-- what a memory of answers must bear -/
def MemoAt (P : Program) (gl : Nat → Option AV) (F : Nat → Prop) (w0 : World) (f : FuncId) (m : List AV → St → Option AV) : Prop :=
  ∀ args us σ v ρ w, m args σ = some v → VRs ρ args us → HR P gl F w0 ρ σ w →
    InvOk P (fun u w' => ∃ ρ', VR ρ' v u ∧ HR P gl F w0 ρ' σ w' ∧ Ext ρ σ ρ' σ) ((callFunc f us.toArray).run P w)
/-- a run in a world of its own gives an answer in any -/
theorem memo_of_run {E : Env} {f : FuncId} {N : Nat} {args : List AV} {us : List Value} {r : AV} {σ1 : St} {ρ1 : Rho} (hE : ∀ F w0, EnvOk P (fun _ => none) F w0 E) (hm : P.follows .mixedOrders = true) (hrun : callF E (exec E N) f args σ1 (isV r) = true)
    (ha : VRs ρ1 args us) (h1 : HR P (fun _ => none) (Old w) w ρ1 σ1 w) (h : HR P gl F w0 ρ σ w) : InvOk P (fun u w' => ∃ ρ', VR ρ' r u ∧ HR P gl F w0 ρ' σ w' ∧ Ext ρ σ ρ' σ) ((callFunc f us.toArray).run P w) := by
  have hgl : GlOk (Old w) w (fun _ => none) := fun g v h => by cases h
  have hx := exec_sound (hE (Old w) w) hgl (fun ex hx => dreg_sound (hE (Old w) w) hx hgl hm) N
  refine (callF_sound (hE (Old w) w) hx hrun ha h1).mono ?_
  rintro u w' ⟨v, σ2, ρ2, g1, g2, g3, g4⟩
  obtain ⟨q1, rfl⟩ := isV_spec g1
  exact ⟨ρ, clo_any q1 g2, h.keep (kept_of g3), Ext.refl _ _⟩

/-! ### Tables of values -/
def sameL : List AV → List AV → Bool
  | [], [] => true
  | a :: l, b :: m => match same 10 a b with | true => sameL l m | false => false
  | _, _ => false
theorem sameL_spec : ∀ {l m : List AV}, sameL l m = true → l = m
  | [], [], _ => rfl
  | [], _ :: _, h => by cases h
  | _ :: _, [], h => by cases h
  | a :: l, b :: m, h => by
    unfold sameL at h
    split at h
    · rename_i h1
      rw [same_sound _ _ _ h1, sameL_spec h]
    · cases h
def lookV : List (List AV × AV) → List AV → Option AV
  | [], _ => none
  | (k, v) :: t, args => match sameL args k with | true => some v | false => lookV t args
theorem lookV_mem : ∀ {t : List (List AV × AV)} {args : List AV} {v : AV}, lookV t args = some v → (args, v) ∈ t
  | [], _, _, h => by cases h
  | (k, u) :: t, args, v, h => by
    unfold lookV at h
    split at h
    · rename_i h1
      cases h
      rw [sameL_spec h1]
      exact List.mem_cons_self
    · exact List.mem_cons_of_mem _ (lookV_mem h)
/-- a table of answers to values that bear no number -/
def memoV (t : List (List AV × AV)) (args : List AV) (_ : St) : Option AV := lookV t args
theorem memoV_ok {E : Env} {f : FuncId} {N : Nat} {t : List (List AV × AV)} (hE : ∀ F w0, EnvOk P (fun _ => none) F w0 E) (hm : P.follows .mixedOrders = true)
    (ht : ∀ x ∈ t, cloL x.1 = true ∧ callF E (exec E N) f x.1 ⟨.lf, 0⟩ (isV x.2) = true) : MemoAt P gl F w0 f (memoV t) := by
  intro args us σ v ρ w h1 h2 h3
  obtain ⟨g1, g2⟩ := ht _ (lookV_mem h1)
  exact memo_of_run hE hm g2 (cloL_any g1 h2) (hr_none P _ w 0) h3

/-! ### Tables of slices of texts -/
def FZ : Nat := 1048576
def strsOf : List AV → Option (List (List Nat))
  | [] => some []
  | .str s :: l => (match strsOf l with | some r => some (s :: r) | none => none)
  | _ :: _ => none
def lookS : List (List AV × AV) → List AV → Option AV := lookV
/-- the answer to a slice of texts, of what it holds -/
noncomputable def memoS (T : TypeId) (t : List (List AV × AV)) (args : List AV) (σ : St) : Option AV :=
  match args with
  | [.sl id off len _ _ e] => (match σ.get id with
    | some (.cells T' l _ false fz) => (match Nat.beq T' T && (Nat.beq e 1 && Nat.ble fz FZ) with
      | true => (match sub l off len with
        | some q => lookV t q
        | none => none)
      | false => none)
    | _ => none)
  | _ => none
noncomputable def sigS (T : TypeId) (q : List AV) : St := St.add ⟨.lf, 0⟩ (.cells T q false false (Nat.add FZ q.length |>.add 1))
theorem memoS_ok {E : Env} {f : FuncId} {N : Nat} {T : TypeId} {t : List (List AV × AV)} (hE : ∀ F w0, EnvOk P (fun _ => none) F w0 E) (hm : P.follows .mixedOrders = true)
    (ht : ∀ x ∈ t, cloL x.1 = true ∧ callF E (exec E N) f [.sl 0 0 x.1.length x.1.length false 1] (sigS T x.1) (isV x.2) = true) : MemoAt P gl F w0 f (memoS T t) := by
  intro args us σ v ρ w h1 h2 h3
  unfold memoS at h1
  split at h1
  · rename_i id off len cap ex e
    split at h1
    · rename_i T' l cl fz hg
      split at h1
      · rename_i hc
        simp only [Bool.and_eq_true] at hc
        obtain ⟨c1, c2, c3⟩ := hc
        have c1 := Nat.eq_of_beq_eq_true c1
        have c2 := Nat.eq_of_beq_eq_true c2
        rw [nble] at c3
        have c3 := of_decide_eq_true c3
        subst c1 c2
        split at h1
        · rename_i q hq
          obtain ⟨g1, g2⟩ := ht _ (lookV_mem h1)
          cases h2 with
          | cons _ _ _ _ h2 hn =>
          cases hn
          cases h2 with
          | sl _ _ _ _ _ _ L a c hL p1 p2 p3 p4 p5 =>
            obtain ⟨pre, vs, post, fr, cc⟩ := h3.cells hL hg
            have hs := sub_spec hq
            have hql : q.length = len := by rw [hs.2]; simp; omega
            have hvl := cc.rel.len
            have hbase := cc.base
            have hsize := cc.size
            have hrel := cloL_any (ρ' := fun i => if i = 0 then some (⟨L.b, L.base + off, L.size⟩ : Loc) else none) g1 (cc.rel.sub hq)
            have hsplit : pre ++ (vs ++ post) = (pre ++ vs.take off) ++ ((vs.drop off).take len ++ ((vs.drop off).drop len ++ post)) := by
              rw [← List.append_assoc ((vs.drop off).take len), List.take_append_drop, List.append_assoc, ← List.append_assoc (vs.take off), List.take_append_drop]
            have hone : allOne q = true := allOne_sub cc.one (fun v hv => by rw [hs.2] at hv; exact List.mem_of_mem_drop (List.mem_of_mem_take hv))
            have hHR : HR P (fun _ => none) (Old w) w (fun i => if i = 0 then some (⟨L.b, L.base + off, L.size⟩ : Loc) else none) (sigS T' q) w := by
              have hget : (sigS T' q).get 0 = some (.cells T' q false false (FZ + q.length + 1)) := by
                unfold sigS; rw [St.get_add, if_pos rfl]; rfl
              refine ⟨rfl, rfl, rfl, Nat.le_refl _, fun b hb => ⟨hb, rfl⟩, fun i M hi => ?_, fun i M B hi hgt => ?_, fun i j M M' hi hj _ _ _ => ?_⟩
              · by_cases e : i = 0
                · subst e
                  simp only [if_true] at hi
                  cases hi
                  refine ⟨by unfold sigS; rw [St.next_add]; exact Nat.zero_lt_one, heap_lt cc.at_, fun _ B hB => ?_⟩
                  rw [hget] at hB; cases hB
                  exact ⟨_, _, _, _, _, rfl, by omega⟩
                · simp only [if_neg e] at hi; cases hi
              · by_cases e : i = 0
                · subst e
                  simp only [if_true] at hi
                  cases hi
                  rw [hget] at hgt; cases hgt
                  refine ⟨_, cc.at_, pre ++ vs.take off, (vs.drop off).take len, (vs.drop off).drop len ++ post, fr, by rw [hsplit], by simp; omega, by rw [← hsplit]; exact hsize, hrel, hone, fun h => (by cases h), ?_⟩
                  have hfr := cc.fr_
                  unfold FrOk at hfr ⊢
                  simp only [Bool.false_eq_true, if_false] at hfr ⊢
                  omega
                · simp only [if_neg e] at hi; cases hi
              · by_cases e : i = 0
                · by_cases e' : j = 0
                  · rw [e, e']
                  · simp only [if_neg e'] at hj; cases hj
                · simp only [if_neg e] at hi; cases hi
            have harg : VRs (fun i => if i = 0 then some (⟨L.b, L.base + off, L.size⟩ : Loc) else none) [.sl 0 0 q.length q.length false 1] [.slice (some a) len c] := by
              refine .cons _ _ _ _ ?_ .nil
              rw [hql]
              exact .sl 0 0 len len false 1 ⟨L.b, L.base + off, L.size⟩ a c (by simp) (Nat.le_refl _) (Nat.le_trans p1 p2) (fun h => by cases h) (by simpa using p4) (by simpa using p5)
            exact memo_of_run hE hm g2 harg hHR h3
        · cases h1
      · cases h1
    · cases h1
  · cases h1
end Go.Proofs.YtjiaoppefinljaaGreatDoor.Ab
