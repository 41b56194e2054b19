/- How values and states of our own stand for the model's: the relation, and what keeps it. -/
import Derived.Test.YtjiaoppefinljaaGreatDoorKa
import Derived.WalkKit
import Derived.WalkSpells
set_option linter.unusedVariables false
set_option linter.unusedSimpArgs false
set_option linter.unusedSectionVars false
namespace Go.Proofs.YtjiaoppefinljaaGreatDoor.Ab
open Go

/-! ### Trees -/
theorem key_succ_zero (f : Nat) : key (f + 1) 0 = [] := rfl
theorem key_succ_succ (f n : Nat) : key (f + 1) (n + 1) = Nat.beq (Nat.mod n 2) 1 :: key f (Nat.div n 2) := rfl
theorem key_inj : ∀ (f g n m : Nat), n < f → m < g → key f n = key g m → n = m := by
  intro f
  induction f with
  | zero => intro g n m h; omega
  | succ f ih =>
    intro g n m hn hm h
    cases g with
    | zero => omega
    | succ g =>
      cases n with
      | zero =>
        cases m with
        | zero => rfl
        | succ m => rw [key_succ_zero, key_succ_succ] at h; cases h
      | succ n =>
        cases m with
        | zero => rw [key_succ_zero, key_succ_succ] at h; cases h
        | succ m =>
          rw [key_succ_succ, key_succ_succ] at h
          injection h with h1 h2
          have h3 : n / 2 = m / 2 := ih g (n / 2) (m / 2) (by omega) (by omega) h2
          have h5 : n % 2 = 1 ↔ m % 2 = 1 := by
            constructor
            · intro e
              have e1 : Nat.beq (Nat.mod n 2) 1 = true := by rw [show Nat.mod n 2 = 1 from e]; rfl
              rw [h1] at e1
              exact Nat.eq_of_beq_eq_true e1
            · intro e
              have e1 : Nat.beq (Nat.mod m 2) 1 = true := by rw [show Nat.mod m 2 = 1 from e]; rfl
              rw [← h1] at e1
              exact Nat.eq_of_beq_eq_true e1
          omega
theorem keyOf_inj {n m : Nat} (h : keyOf n = keyOf m) : n = m := key_inj _ _ _ _ (Nat.lt_succ_self n) (Nat.lt_succ_self m) h

theorem get_lf {α : Type} (p : List Bool) : Tr.get p (.lf : Tr α) = none := by cases p <;> rfl
theorem get_put {α : Type} (x : Option α) : ∀ (p q : List Bool) (t : Tr α), Tr.get p (Tr.put x q t) = if p = q then x else Tr.get p t := by
  intro p
  induction p with
  | nil =>
    intro q t
    cases q with
    | nil => cases t <;> rfl
    | cons b q => cases t <;> cases b <;> rfl
  | cons a p ih =>
    intro q t
    cases q with
    | nil =>
      rw [if_neg (by simp)]
      cases t with
      | lf =>
        rw [get_lf]
        cases a
        · exact get_lf p
        · exact get_lf p
      | nd l v r => cases a <;> rfl
    | cons b q =>
      cases t with
      | lf =>
        cases a <;> cases b
        · show Tr.get p (Tr.put x q .lf) = _
          rw [ih]; simp only [List.cons.injEq, true_and, get_lf]
        · rw [if_neg (by simp), get_lf]; exact get_lf p
        · rw [if_neg (by simp), get_lf]; exact get_lf p
        · show Tr.get p (Tr.put x q .lf) = _
          rw [ih]; simp only [List.cons.injEq, true_and, get_lf]
      | nd l v r =>
        cases a <;> cases b
        · show Tr.get p (Tr.put x q r) = _
          rw [ih]; simp only [List.cons.injEq, true_and]; rfl
        · rw [if_neg (by simp)]; rfl
        · rw [if_neg (by simp)]; rfl
        · show Tr.get p (Tr.put x q l) = _
          rw [ih]; simp only [List.cons.injEq, true_and]; rfl
theorem get_put_same {α : Type} (x : Option α) (p : List Bool) (t : Tr α) : Tr.get p (Tr.put x p t) = x := by rw [get_put, if_pos rfl]
theorem get_put_key {α : Type} (x : Option α) (i j : Nat) (t : Tr α) : Tr.get (keyOf i) (Tr.put x (keyOf j) t) = if i = j then x else Tr.get (keyOf i) t := by
  rw [get_put]
  by_cases h : i = j
  · subst h; simp
  · rw [if_neg (fun e => h (keyOf_inj e)), if_neg h]
theorem St.get_set (σ : St) (i j : Nat) (B : AB) : (σ.set i B).get j = if j = i then some B else σ.get j := get_put_key _ _ _ _
theorem St.get_kill (σ : St) (i j : Nat) : (σ.kill i).get j = if j = i then none else σ.get j := get_put_key _ _ _ _
theorem St.get_add (σ : St) (B : AB) (j : Nat) : (σ.add B).get j = if j = σ.next then some B else σ.get j := get_put_key _ _ _ _
theorem St.next_add (σ : St) (B : AB) : (σ.add B).next = σ.next + 1 := rfl

/-! ### The relation -/
structure Loc where
  b : Nat
  base : Nat
  size : Nat
abbrev Rho := Nat → Option Loc
def bsN (s : List Nat) : ByteArray := ⟨(s.map UInt8.ofNat).toArray⟩

mutual
inductive VR (ρ : Rho) : AV → Value → Prop
  | int (k n) : VR ρ (.int k n) (.int k n)
  | rng (k lo hi n) (h1 : ∀ l, lo = some l → l ≤ n) (h2 : ∀ h, hi = some h → n ≤ h) : VR ρ (.rng k lo hi) (.int k n)
  | bool (b) : VR ρ (.bool b) (.bool b)
  | str (s) (h : ∀ x ∈ s, x < 256) : VR ρ (.str s) (.string (bsN s))
  | nilp : VR ρ .nilp (.pointer none)
  | ptr (id off L) (h : ρ id = some L) : VR ρ (.ptr id off) (.pointer (some ⟨L.b, L.base + off, none⟩))
  | nils : VR ρ .nils (.slice none 0 0)
  | sl (id off len cap ex esz L a c) (h : ρ id = some L) (h1 : len ≤ cap) (h2 : cap ≤ c) (h3 : ex = true → c = cap) (h4 : L.base + off + c * esz ≤ L.size)
      (h5 : c ≠ 0 → a = ⟨L.b, L.base + off, none⟩) : VR ρ (.sl id off len cap ex esz) (.slice (some a) len c)
  | nilm : VR ρ .nilm (.map none)
  | map (id L) (h : ρ id = some L) : VR ρ (.map id) (.map (some L.b))
  | nilf : VR ρ .nilf .nilFunc
  | fn (f a b vs us) (h1 : VRs ρ a vs) (h2 : VRs ρ b us) : VR ρ (.fn f a b) (.func (.func f) vs.toArray us.toArray)
  | meth (name v u) (h : VR ρ v u) : VR ρ (.meth name v) (.func (.method name) #[u] #[])
  | yld (id L) (h : ρ id = some L) : VR ρ (.yld id) (.func (.yield L.b) #[] #[])
  | nili : VR ρ .nili .nilIface
  | ifc (t v u) (h : VR ρ v u) : VR ρ (.ifc t v) (.iface t u)
  | agg (l vs) (h : VRs ρ l vs) : VR ρ (.agg l) (.agg vs.toArray)
  | tup (l vs) (h : VRs ρ l vs) : VR ρ (.tup l) (.tuple vs.toArray)
inductive VRs (ρ : Rho) : List AV → List Value → Prop
  | nil : VRs ρ [] []
  | cons (a v l vs) (h : VR ρ a v) (hs : VRs ρ l vs) : VRs ρ (a :: l) (v :: vs)
end

def Le (ρ ρ' : Rho) : Prop := ∀ id L, ρ id = some L → ρ' id = some L

theorem VR.mono {ρ ρ' : Rho} (hl : Le ρ ρ') {a : AV} {v : Value} (h : VR ρ a v) : VR ρ' a v :=
  VR.rec (ρ := ρ) (motive_1 := fun a v _ => VR ρ' a v) (motive_2 := fun l vs _ => VRs ρ' l vs)
    (fun k n => .int k n) (fun k lo hi n h1 h2 => .rng k lo hi n h1 h2) (fun b => .bool b) (fun s h => .str s h) .nilp
    (fun id off L h => .ptr id off L (hl _ _ h)) .nils (fun id off len cap ex esz L a c h h1 h2 h3 h4 h5 => .sl id off len cap ex esz L a c (hl _ _ h) h1 h2 h3 h4 h5)
    .nilm (fun id L h => .map id L (hl _ _ h)) .nilf (fun f a b vs us _ _ h1 h2 => .fn f a b vs us h1 h2) (fun name v u _ h => .meth name v u h)
    (fun id L h => .yld id L (hl _ _ h)) .nili (fun t v u _ h => .ifc t v u h) (fun l vs _ h => .agg l vs h) (fun l vs _ h => .tup l vs h)
    .nil (fun a v l vs _ _ h hs => .cons a v l vs h hs) h
theorem VRs.mono {ρ ρ' : Rho} (hl : Le ρ ρ') {l : List AV} {vs : List Value} (h : VRs ρ l vs) : VRs ρ' l vs := by
  induction l generalizing vs with
  | nil => cases h; exact .nil
  | cons a l ih => cases h with | cons _ v _ vs h hs => exact .cons _ _ _ _ (h.mono hl) (ih hs)
theorem Le.refl (ρ : Rho) : Le ρ ρ := fun _ _ h => h
theorem Le.trans {a b c : Rho} (h : Le a b) (g : Le b c) : Le a c := fun i L hi => g i L (h i L hi)

variable {ρ ρ' : Rho}

theorem VRs.len {l : List AV} {vs : List Value} (h : VRs ρ l vs) : l.length = vs.length := by
  induction l generalizing vs with
  | nil => cases h; rfl
  | cons a l ih => cases h with | cons _ v _ vs h hs => simp [ih hs]
theorem VRs.nth {l : List AV} {vs : List Value} (h : VRs ρ l vs) {i : Nat} {v : AV} (hi : nth l i = some v) : ∃ u, vs[i]? = some u ∧ VR ρ v u := by
  induction l generalizing vs i with
  | nil => cases hi
  | cons a l ih =>
    cases h with
    | cons _ u _ vs h hs =>
      cases i with
      | zero => cases hi; exact ⟨u, rfl, h⟩
      | succ i => obtain ⟨x, hx, hr⟩ := ih hs (i := i) hi; exact ⟨x, by simpa using hx, hr⟩
theorem VRs.append {l m : List AV} {vs us : List Value} (h : VRs ρ l vs) (g : VRs ρ m us) : VRs ρ (l ++ m) (vs ++ us) := by
  induction l generalizing vs with
  | nil => cases h; exact g
  | cons a l ih => cases h with | cons _ v _ vs h hs => exact .cons _ _ _ _ h (ih hs)
theorem dropE_spec {α : Type} : ∀ (n : Nat) (l r : List α), dropE n l = some r → n ≤ l.length ∧ r = l.drop n
  | 0, l, r, h => by cases h; simp
  | n + 1, [], r, h => by cases h
  | n + 1, a :: l, r, h => by have := dropE_spec n l r h; simpa using this
theorem takeE_spec {α : Type} : ∀ (n : Nat) (l r : List α), takeE n l = some r → n ≤ l.length ∧ r = l.take n
  | 0, l, r, h => by cases h; simp
  | n + 1, [], r, h => by cases h
  | n + 1, a :: l, r, h => by
    unfold takeE at h
    cases h1 : takeE n l with
    | none => rw [h1] at h; cases h
    | some s =>
      rw [h1] at h; cases h
      have := takeE_spec n l s h1
      simp [this.1, ← this.2]
theorem sub_spec {α : Type} {l r : List α} {off n : Nat} (h : sub l off n = some r) : off + n ≤ l.length ∧ r = (l.drop off).take n := by
  unfold sub at h
  cases h1 : dropE off l with
  | none => rw [h1] at h; cases h
  | some s =>
    rw [h1] at h
    have a := dropE_spec _ _ _ h1
    have b := takeE_spec _ _ _ h
    rw [a.2] at b
    simp only [List.length_drop] at b
    exact ⟨by omega, b.2⟩
theorem over_spec {α : Type} : ∀ (l vs r : List α), over l vs = some r → vs.length ≤ l.length ∧ r = vs ++ l.drop vs.length
  | l, [], r, h => by cases l <;> (cases h; simp)
  | [], v :: vs, r, h => by cases h
  | a :: l, v :: vs, r, h => by
    unfold over at h
    cases h1 : over l vs with
    | none => rw [h1] at h; cases h
    | some s =>
      rw [h1] at h; cases h
      have := over_spec l vs s h1
      simp [this.1, ← this.2]
theorem splice_spec {α : Type} : ∀ (n : Nat) (l vs r : List α), splice n l vs = some r → n + vs.length ≤ l.length ∧ r = l.take n ++ (vs ++ l.drop (n + vs.length))
  | 0, l, vs, r, h => by have := over_spec l vs r (by cases l <;> exact h); simpa using this
  | n + 1, [], vs, r, h => by cases vs <;> cases h
  | n + 1, a :: l, vs, r, h => by
    unfold splice at h
    cases h1 : splice n l vs with
    | none => rw [h1] at h; cases h
    | some s =>
      rw [h1] at h; cases h
      have := splice_spec n l vs s h1
      refine ⟨by simp; omega, ?_⟩
      rw [this.2, show n + 1 + vs.length = (n + vs.length) + 1 by omega]
      simp
theorem overX_spec {α : Type} : ∀ (l vs : List α), overX l vs = vs ++ l.drop vs.length
  | l, [] => by cases l <;> rfl
  | [], v :: vs => by simp [overX]
  | a :: l, v :: vs => by simp [overX, overX_spec l vs]
theorem spliceX_spec {α : Type} : ∀ (n : Nat) (l vs r : List α), spliceX n l vs = some r → n ≤ l.length ∧ r = l.take n ++ (vs ++ l.drop (n + vs.length))
  | 0, l, vs, r, h => by
    have : r = overX l vs := by cases l <;> (cases h; rfl)
    rw [this, overX_spec]; simp
  | n + 1, [], vs, r, h => by cases h
  | n + 1, a :: l, vs, r, h => by
    unfold spliceX at h
    cases h1 : spliceX n l vs with
    | none => rw [h1] at h; cases h
    | some s =>
      rw [h1] at h; cases h
      have := spliceX_spec n l vs s h1
      refine ⟨by simp; omega, ?_⟩
      rw [this.2, show n + 1 + vs.length = (n + vs.length) + 1 by omega]
      simp
theorem VRs.drop {l : List AV} {vs : List Value} (h : VRs ρ l vs) (n : Nat) : VRs ρ (l.drop n) (vs.drop n) := by
  induction n generalizing l vs with
  | zero => simpa using h
  | succ n ih => cases h with | nil => exact .nil | cons _ _ _ _ h hs => simpa using ih hs
theorem VRs.take {l : List AV} {vs : List Value} (h : VRs ρ l vs) (n : Nat) : VRs ρ (l.take n) (vs.take n) := by
  induction n generalizing l vs with
  | zero => simp; exact .nil
  | succ n ih => cases h with | nil => exact .nil | cons _ _ _ _ h hs => simpa using .cons _ _ _ _ h (ih hs)
theorem VRs.sub {l r : List AV} {vs : List Value} (h : VRs ρ l vs) {off n : Nat} (hs : Ab.sub l off n = some r) : VRs ρ r ((vs.drop off).take n) := by
  rw [(sub_spec hs).2]; exact (h.drop off).take n
theorem VRs.put {l ws : List AV} {vs us : List Value} (h : VRs ρ l vs) (g : VRs ρ ws us) (n : Nat) : VRs ρ (l.take n ++ (ws ++ l.drop (n + ws.length))) (vs.take n ++ (us ++ vs.drop (n + us.length))) := by
  rw [g.len]; exact (h.take n).append (g.append (h.drop _))
theorem allOne_iff : ∀ (l : List AV), allOne l = true ↔ ∀ v ∈ l, oneA v = true
  | [] => by simp [allOne]
  | v :: l => by
    have := allOne_iff l
    unfold allOne
    cases h : oneA v
    · simp [h]
    · simp [h, this]
theorem VR.one {v : AV} {u : Value} (h : VR ρ v u) (hv : oneA v = true) : u.oneCell' = true := by
  cases h <;> first | rfl | cases hv
theorem VRs.one {l : List AV} {vs : List Value} (h : VRs ρ l vs) (hl : allOne l = true) : ∀ u ∈ vs, u.oneCell' = true := by
  rw [allOne_iff] at hl
  induction l generalizing vs with
  | nil => cases h; intro u hu; cases hu
  | cons a l ih =>
    cases h with
    | cons _ v _ vs h hs =>
      intro u hu
      rcases List.mem_cons.1 hu with rfl | hu
      · exact h.one (hl _ (by simp))
      · exact ih hs (fun v hv => hl v (by simp [hv])) u hu
/-- the cells of a value -/
theorem VR.cells {v : AV} {u : Value} (h : VR ρ v u) : VRs ρ v.cs u.cells.toList := by
  cases h with
  | agg l vs h => simpa [AV.cs, Value.cells] using h
  | int => exact .cons _ _ _ _ (.int _ _) .nil
  | rng k lo hi n h1 h2 => exact .cons _ _ _ _ (.rng k lo hi n h1 h2) .nil
  | bool => exact .cons _ _ _ _ (.bool _) .nil
  | str s h => exact .cons _ _ _ _ (.str _ h) .nil
  | nilp => exact .cons _ _ _ _ .nilp .nil
  | ptr id off L h => exact .cons _ _ _ _ (.ptr id off L h) .nil
  | nils => exact .cons _ _ _ _ .nils .nil
  | sl id off len cap ex esz L a c h h1 h2 h3 h4 h5 => exact .cons _ _ _ _ (.sl id off len cap ex esz L a c h h1 h2 h3 h4 h5) .nil
  | nilm => exact .cons _ _ _ _ .nilm .nil
  | map id L h => exact .cons _ _ _ _ (.map id L h) .nil
  | nilf => exact .cons _ _ _ _ .nilf .nil
  | fn f a b vs us h1 h2 => exact .cons _ _ _ _ (.fn f a b vs us h1 h2) .nil
  | meth name v u h => exact .cons _ _ _ _ (.meth name v u h) .nil
  | yld id L h => exact .cons _ _ _ _ (.yld id L h) .nil
  | nili => exact .cons _ _ _ _ .nili .nil
  | ifc t v u h => exact .cons _ _ _ _ (.ifc t v u h) .nil
  | tup l vs h => exact .cons _ _ _ _ (.tup l vs h) .nil

/-! ### Texts -/
theorem bsN_size (s : List Nat) : (bsN s).size = s.length := by simp [bsN, ByteArray.size]
theorem bsN_append (s t : List Nat) : bsN s ++ bsN t = bsN (s ++ t) := by
  apply ByteArray.ext
  simp [bsN, ByteArray.data_append]
theorem bsN_extract (s : List Nat) (l h : Nat) : (bsN s).extract l h = bsN ((s.drop l).take (h - l)) := by
  apply ByteArray.ext
  rw [ByteArray.data_extract]
  apply Array.toList_inj.1
  simp [bsN, List.map_drop, List.map_take, List.take_drop]
  
theorem leqL_spec : ∀ (x y : List Nat), leqL x y = decide (x = y)
  | [], [] => rfl
  | [], b :: y => rfl
  | a :: x, [] => rfl
  | a :: x, b :: y => by
    unfold leqL
    cases h : Nat.beq a b with
    | true =>
      have hab : a = b := Nat.eq_of_beq_eq_true h
      subst hab
      simp [leqL_spec x y]
    | false =>
      have hab : a ≠ b := Nat.ne_of_beq_eq_false h
      simp [hab]
theorem bsN_inj : ∀ {s t : List Nat}, (∀ x ∈ s, x < 256) → (∀ x ∈ t, x < 256) → bsN s = bsN t → s = t := by
  intro s t hs ht h
  have h1 : s.map UInt8.ofNat = t.map UInt8.ofNat := by
    have := congrArg (fun b : ByteArray => b.data.toList) h
    simpa [bsN] using this
  clear h
  induction s generalizing t with
  | nil => cases t with | nil => rfl | cons b t => simp at h1
  | cons a s ih =>
    cases t with
    | nil => simp at h1
    | cons b t =>
      simp only [List.map_cons, List.cons.injEq] at h1
      have hab : a = b := by
        have h2 := congrArg UInt8.toNat h1.1
        simp only [UInt8.toNat_ofNat'] at h2
        have := hs a (by simp)
        have := ht b (by simp)
        omega
      rw [hab, ih (fun x hx => hs x (by simp [hx])) (fun x hx => ht x (by simp [hx])) h1.2]
theorem ba_beq (a b : ByteArray) : (a == b) = decide (a = b) := by
  obtain ⟨a⟩ := a
  obtain ⟨b⟩ := b
  show (a == b) = _
  by_cases h : a = b
  · subst h; simp
  · rw [decide_eq_false (fun e => h (by injection e)), beq_eq_false_iff_ne]; exact h
theorem bsN_eq {s t : List Nat} (hs : ∀ x ∈ s, x < 256) (ht : ∀ x ∈ t, x < 256) : (bsN s == bsN t) = leqL s t := by
  rw [leqL_spec, ba_beq]
  by_cases h : s = t
  · subst h; simp
  · rw [decide_eq_false h, decide_eq_false (fun e => h (bsN_inj hs ht e))]

end Go.Proofs.YtjiaoppefinljaaGreatDoor.Ab

/- How states of our own stand for the model's worlds, and what keeps it. -/
namespace Go.Proofs.YtjiaoppefinljaaGreatDoor.Ab
open Go

def TR (ρ : Rho) (ts : Tr AV) (tmps : Array Value) : Prop := ∀ t, t < tmps.size → VR ρ (X.ev ts (.t (keyOf t))) (tmps.getD t undef)
def ER (ρ : Rho) : List (AV × AV × Nat) → List MapEntry → Prop
  | [], [] => True
  | (k, v, b) :: es, e :: ents => VR ρ k e.key ∧ VR ρ v e.val ∧ e.born = b ∧ ER ρ es ents
  | _, _ => False
def FrOk (L : Loc) (sg : Bool) (fz : Nat) (fr : Nat × Nat) : Prop :=
  if sg = true then ∀ o, o < L.size → ¬ (fr.1 ≤ o ∧ o < fr.2) else fr.2 ≤ L.base + fz
def BR (P : Program) (gl : Nat → Option AV) (ρ : Rho) (L : Loc) (B : AB) (o : Obj) : Prop :=
  match B with
  | .cells T l cl sg fz => ∃ (pre vs post : List Value) (fr : Nat × Nat), o = .cells (pre ++ (vs ++ post)).toArray T fr ∧ pre.length = L.base ∧ (pre ++ (vs ++ post)).length = L.size ∧
      VRs ρ l vs ∧ allOne l = true ∧ (cl = true → pre = [] ∧ post = []) ∧ FrOk L sg fz fr
  | .map es clk => ∃ ents : List MapEntry, o = .map ents.toArray clk ∧ ER ρ es ents
  | .stit s pos => o = .stringIter (bsN s) pos ∧ (∀ x ∈ s, x < 256) ∧ L.base = 0
  | .loop busy ts ps assign body => ∃ lp : Loop, o = .loop lp ∧ lp.state = (if busy = true then .busy else .ready) ∧ lp.pending = none ∧ TR ρ ts lp.tmps ∧
      cPaths lp.tmps.size lp.params.toList = some ps ∧ assign = comp P gl lp.tmps.size lp.assign ∧ body = comp P gl lp.tmps.size lp.body
  | .dfr => o = .deferred (some [])

variable {P : Program} {gl : Nat → Option AV} {F : Nat → Prop} {w0 : World} {ρ ρ' : Rho} {σ σ' : St} {w w' : World}

theorem TR.mono (hl : Le ρ ρ') {ts : Tr AV} {tmps : Array Value} (h : TR ρ ts tmps) : TR ρ' ts tmps := fun t ht => (h t ht).mono hl
theorem ER.mono (hl : Le ρ ρ') : ∀ {es : List (AV × AV × Nat)} {ents : List MapEntry}, ER ρ es ents → ER ρ' es ents
  | [], [], _ => trivial
  | (_, _, _) :: _, _ :: _, h => ⟨h.1.mono hl, h.2.1.mono hl, h.2.2.1, ER.mono hl h.2.2.2⟩
  | [], _ :: _, h => h
  | (_, _, _) :: _, [], h => h
theorem BR.mono (hl : Le ρ ρ') {L : Loc} {B : AB} {o : Obj} (h : BR P gl ρ L B o) : BR P gl ρ' L B o := by
  cases B with
  | cells T l cl sg fz => obtain ⟨pre, vs, post, fr, a, b, c, d, e, f, g⟩ := h; exact ⟨pre, vs, post, fr, a, b, c, d.mono hl, e, f, g⟩
  | map es clk => obtain ⟨ents, a, b⟩ := h; exact ⟨ents, a, b.mono hl⟩
  | stit s pos => exact h
  | loop busy ts ps assign body => obtain ⟨lp, a, b, c, d, e, f, g⟩ := h; exact ⟨lp, a, b, c, d.mono hl, e, f, g⟩
  | dfr => exact h

/-- a block that is read alone -/
def Ro (σ : St) (id : Nat) : Prop := ∀ B, σ.get id = some B → ∃ T l cl sg fz, B = .cells T l cl sg fz ∧ l.length < fz
theorem nro_cells {σ : St} {id : Nat} {T : TypeId} {l : List AV} {cl sg : Bool} {fz : Nat} (hg : σ.get id = some (.cells T l cl sg fz)) (h : fz ≤ l.length) : ¬ Ro σ id := fun hr => by
  obtain ⟨_, _, _, _, _, e, h2⟩ := hr _ hg
  cases e
  omega
theorem nro_other {σ : St} {id : Nat} {B : AB} (hg : σ.get id = some B) (h : ∀ T l cl sg fz, B ≠ .cells T l cl sg fz) : ¬ Ro σ id := fun hr => by
  obtain ⟨T, l, cl, sg, fz, e, _⟩ := hr _ hg
  exact h _ _ _ _ _ e
structure HR (P : Program) (gl : Nat → Option AV) (F : Nat → Prop) (w0 : World) (ρ : Rho) (σ : St) (w : World) : Prop where
  os : w.os = w0.os
  tape : w.tape = w0.tape
  out : w.output = w0.output
  size : w0.heap.size ≤ w.heap.size
  frame : ∀ b, F b → b < w0.heap.size ∧ w.heap[b]? = w0.heap[b]?
  dom : ∀ id L, ρ id = some L → id < σ.next ∧ L.b < w.heap.size ∧ (F L.b → Ro σ id)
  blk : ∀ id L B, ρ id = some L → σ.get id = some B → ∃ o, w.heap[L.b]? = some o ∧ BR P gl ρ L B o
  inj : ∀ i j L M, ρ i = some L → ρ j = some M → σ.get i ≠ none → σ.get j ≠ none → L.b = M.b → i = j

/-- what lies behind: numbers that were there stand for what they stood; what stood for nothing is as it was -/
structure Ext (ρ : Rho) (σ : St) (ρ' : Rho) (σ' : St) : Prop where
  le : σ.next ≤ σ'.next
  same : ∀ id, id < σ.next → ρ' id = ρ id
  un : ∀ id, id < σ.next → ρ id = none → σ'.get id = σ.get id
theorem Ext.refl (ρ : Rho) (σ : St) : Ext ρ σ ρ σ := ⟨Nat.le_refl _, fun _ _ => rfl, fun _ _ _ => rfl⟩
theorem Ext.trans {ρ'' : Rho} {σ'' : St} (h : Ext ρ σ ρ' σ') (g : Ext ρ' σ' ρ'' σ'') : Ext ρ σ ρ'' σ'' :=
  ⟨Nat.le_trans h.le g.le, fun id hi => (g.same id (Nat.lt_of_lt_of_le hi h.le)).trans (h.same id hi),
    fun id hi hn => (g.un id (Nat.lt_of_lt_of_le hi h.le) (by rw [h.same id hi]; exact hn)).trans (h.un id hi hn)⟩
theorem HR.leOf (h : HR P gl F w0 ρ σ w) (e : Ext ρ σ ρ' σ') : Le ρ ρ' := fun id L hi => by rw [e.same id (h.dom id L hi).1]; exact hi

/-! ### One block is written -/
structure Wrote (w w' : World) (b : Nat) (o : Obj) : Prop where
  os : w'.os = w.os
  tape : w'.tape = w.tape
  out : w'.output = w.output
  size : w'.heap.size = w.heap.size
  at_ : w'.heap[b]? = some o
  other : ∀ k, k ≠ b → w'.heap[k]? = w.heap[k]?
theorem Wrote.setRow {b : Nat} {old cs : Array Value} {T : TypeId} {fr : Nat × Nat} (h : w.heap[b]? = some (.cells old T fr)) : Wrote w (w.setRow b cs) b (.cells cs T fr) :=
  ⟨rfl, rfl, rfl, by simp, setRow_heap w b old cs T fr h, fun k hk => setRow_other w b k cs hk⟩
theorem Wrote.setObj {b : Nat} {o : Obj} (h : b < w.heap.size) : Wrote w { w with heap := w.heap.setIfInBounds b o } b o :=
  ⟨rfl, rfl, rfl, by simp, by simp [h], fun k hk => by simp [Array.getElem?_setIfInBounds_ne (Ne.symm hk)]⟩
theorem Wrote.trans {w1 w2 : World} {b : Nat} {o o' : Obj} (h : Wrote w w1 b o) (g : Wrote w1 w2 b o') : Wrote w w2 b o' :=
  ⟨g.os.trans h.os, g.tape.trans h.tape, g.out.trans h.out, g.size.trans h.size, g.at_, fun k hk => (g.other k hk).trans (h.other k hk)⟩

theorem HR.write (h : HR P gl F w0 ρ σ w) {id : Nat} {L : Loc} {B' : AB} {o' : Obj} (hi : ρ id = some L) (hg : σ.get id ≠ none) (hnr : ¬ Ro σ id) (hw : Wrote w w' L.b o') (hb : BR P gl ρ L B' o') :
    HR P gl F w0 ρ (σ.set id B') w' where
  os := hw.os.trans h.os
  tape := hw.tape.trans h.tape
  out := hw.out.trans h.out
  size := by rw [hw.size]; exact h.size
  frame := fun b hf => ⟨(h.frame b hf).1, by rw [hw.other b (fun e => hnr ((h.dom id L hi).2.2 (e ▸ hf)))]; exact (h.frame b hf).2⟩
  dom := fun i M hm => ⟨(h.dom i M hm).1, by rw [hw.size]; exact (h.dom i M hm).2.1, fun hf B hB => by
    rw [St.get_set] at hB
    by_cases e : i = id
    · subst e
      exact absurd ((h.dom i M hm).2.2 hf) hnr
    · rw [if_neg e] at hB
      exact (h.dom i M hm).2.2 hf B hB⟩
  blk := fun i M B hm hget => by
    rw [St.get_set] at hget
    by_cases e : i = id
    · subst e
      rw [if_pos rfl] at hget
      cases hget
      rw [hi] at hm; cases hm
      exact ⟨o', hw.at_, hb⟩
    · rw [if_neg e] at hget
      obtain ⟨o, ho, hbr⟩ := h.blk i M B hm hget
      refine ⟨o, ?_, hbr⟩
      rw [hw.other _ (fun eb => e (h.inj i id M L hm hi (by rw [hget]; simp) hg eb))]
      exact ho
  inj := fun i j M N hm hn gi gj e => by
    have key : ∀ k, (σ.set id B').get k ≠ none → σ.get k ≠ none := fun k hk => by
      rw [St.get_set] at hk
      by_cases ek : k = id
      · subst ek; exact hg
      · rw [if_neg ek] at hk; exact hk
    exact h.inj i j M N hm hn (key i gi) (key j gj) e
theorem Ext.set (σ : St) {id : Nat} {L : Loc} (hi : ρ id = some L) (B : AB) : Ext ρ σ ρ (σ.set id B) :=
  ⟨Nat.le_refl _, fun _ _ => rfl, fun i _ hn => by rw [St.get_set, if_neg (fun e => by rw [e, hi] at hn; cases hn)]⟩

/-! ### A number is given up -/
theorem HR.kill (h : HR P gl F w0 ρ σ w) (id : Nat) : HR P gl F w0 ρ (σ.kill id) w where
  os := h.os
  tape := h.tape
  out := h.out
  size := h.size
  frame := h.frame
  dom := fun i M hm => ⟨(h.dom i M hm).1, (h.dom i M hm).2.1, fun hf B hB => by
    rw [St.get_kill] at hB
    by_cases e : i = id
    · rw [if_pos e] at hB; cases hB
    · rw [if_neg e] at hB; exact (h.dom i M hm).2.2 hf B hB⟩
  blk := fun i M B hm hget => by
    rw [St.get_kill] at hget
    by_cases e : i = id
    · rw [if_pos e] at hget; cases hget
    · rw [if_neg e] at hget; exact h.blk i M B hm hget
  inj := fun i j M N hm hn gi gj e => by
    have key : ∀ k, (σ.kill id).get k ≠ none → σ.get k ≠ none := fun k hk => by
      rw [St.get_kill] at hk
      by_cases ek : k = id
      · rw [if_pos ek] at hk; exact (hk rfl).elim
      · rw [if_neg ek] at hk; exact hk
    exact h.inj i j M N hm hn (key i gi) (key j gj) e
theorem Ext.kill (σ : St) {id : Nat} {L : Loc} (hi : ρ id = some L) : Ext ρ σ ρ (σ.kill id) :=
  ⟨Nat.le_refl _, fun _ _ => rfl, fun i _ hn => by rw [St.get_kill, if_neg (fun e => by rw [e, hi] at hn; cases hn)]⟩

/-! ### A new number -/
def upd (ρ : Rho) (id : Nat) (L : Loc) : Rho := fun i => if i = id then some L else ρ i
theorem Le.upd {id : Nat} (L : Loc) (h : ρ id = none) : Le ρ (upd ρ id L) := fun i M hi => by
  unfold Ab.upd
  rw [if_neg (fun e => by rw [e, h] at hi; cases hi)]
  exact hi
theorem HR.none_next (h : HR P gl F w0 ρ σ w) : ρ σ.next = none := by
  cases e : ρ σ.next with
  | none => rfl
  | some L => exact absurd (h.dom _ _ e).1 (Nat.lt_irrefl _)
theorem HR.addA (h : HR P gl F w0 ρ σ w) (B : AB) : HR P gl F w0 ρ (σ.add B) w where
  os := h.os
  tape := h.tape
  out := h.out
  size := h.size
  frame := h.frame
  dom := fun i M hm => ⟨Nat.lt_succ_of_lt (h.dom i M hm).1, (h.dom i M hm).2.1, fun hf B' hB => by
    rw [St.get_add, if_neg (Nat.ne_of_lt (h.dom i M hm).1)] at hB
    exact (h.dom i M hm).2.2 hf B' hB⟩
  blk := fun i M B' hm hget => by
    rw [St.get_add, if_neg (Nat.ne_of_lt (h.dom i M hm).1)] at hget
    exact h.blk i M B' hm hget
  inj := fun i j M N hm hn gi gj e => by
    rw [St.get_add, if_neg (Nat.ne_of_lt (h.dom i M hm).1)] at gi
    rw [St.get_add, if_neg (Nat.ne_of_lt (h.dom j N hn).1)] at gj
    exact h.inj i j M N hm hn gi gj e
theorem heapAlloc (w : World) (o : Obj) (k : Nat) : (w.alloc o).heap[k]? = if k = w.heap.size then some o else w.heap[k]? := by
  simp only [World.alloc, Array.getElem?_push]
theorem HR.alloc (h : HR P gl F w0 ρ σ w) {id n : Nat} {o : Obj} (hn : ρ id = none) (hid : id < σ.next) (hB : ∀ B', σ.get id = some B' → BR P gl ρ ⟨w.heap.size, 0, n⟩ B' o) :
    HR P gl F w0 (upd ρ id ⟨w.heap.size, 0, n⟩) σ (w.alloc o) := by
  have hl : Le ρ (upd ρ id ⟨w.heap.size, 0, n⟩) := Le.upd _ hn
  have hne : ∀ i M, ρ i = some M → M.b ≠ w.heap.size := fun i M hm => Nat.ne_of_lt (h.dom i M hm).2.1
  have hfn : ¬ F w.heap.size := fun hf => absurd (Nat.lt_of_lt_of_le (h.frame _ hf).1 h.size) (Nat.lt_irrefl _)
  refine ⟨h.os, h.tape, h.out, ?_, fun b hf => ⟨(h.frame b hf).1, ?_⟩, fun i M hm => ?_, fun i M B' hm hget => ?_, fun i j M N hm hm' gi gj e => ?_⟩
  · exact Nat.le_trans h.size (by simp)
  · rw [heapAlloc, if_neg (fun e => hfn (by rw [← e]; exact hf))]; exact (h.frame b hf).2
  · unfold Ab.upd at hm
    by_cases e : i = id
    · rw [if_pos e] at hm; cases hm
      exact ⟨e ▸ hid, by simp, fun hf => absurd hf hfn⟩
    · rw [if_neg e] at hm
      exact ⟨(h.dom i M hm).1, Nat.lt_of_lt_of_le (h.dom i M hm).2.1 (by simp), (h.dom i M hm).2.2⟩
  · unfold Ab.upd at hm
    by_cases e : i = id
    · rw [if_pos e] at hm; cases hm
      subst e
      exact ⟨o, by rw [heapAlloc, if_pos rfl], (hB B' hget).mono hl⟩
    · rw [if_neg e] at hm
      obtain ⟨o', ho, hb⟩ := h.blk i M B' hm hget
      exact ⟨o', by rw [heapAlloc, if_neg (hne i M hm)]; exact ho, hb.mono hl⟩
  · unfold Ab.upd at hm hm'
    by_cases ei : i = id
    · by_cases ej : j = id
      · rw [ei, ej]
      · rw [if_pos ei] at hm; rw [if_neg ej] at hm'; cases hm
        exact absurd e.symm (hne j N hm')
    · by_cases ej : j = id
      · rw [if_neg ei] at hm; rw [if_pos ej] at hm'; cases hm'
        exact absurd e (hne i M hm)
      · rw [if_neg ei] at hm; rw [if_neg ej] at hm'
        exact h.inj i j M N hm hm' gi gj e
/-- a block is made, its number too -/
theorem HR.make (h : HR P gl F w0 ρ σ w) (B : AB) (o : Obj) (n : Nat) (hB : BR P gl ρ ⟨w.heap.size, 0, n⟩ B o) :
    HR P gl F w0 (upd ρ σ.next ⟨w.heap.size, 0, n⟩) (σ.add B) (w.alloc o) :=
  (h.addA B).alloc h.none_next (by rw [St.next_add]; omega) (fun B' hget => by rw [St.get_add, if_pos rfl] at hget; cases hget; exact hB)
theorem Ext.make (ρ : Rho) (σ : St) (B : AB) (L : Loc) : Ext ρ σ (upd ρ σ.next L) (σ.add B) :=
  ⟨by rw [St.next_add]; omega, fun id hi => by unfold Ab.upd; rw [if_neg (by omega)], fun id hi _ => by rw [St.get_add, if_neg (by omega)]⟩
/-- a block goes over to a new number -/
theorem HR.move (h : HR P gl F w0 ρ σ w) {id : Nat} {L M : Loc} {B : AB} {o' : Obj} (hi : ρ id = some L) (hg : σ.get id ≠ none) (hnr : ¬ Ro σ id) (hM : M.b = L.b) (hw : Wrote w w' L.b o') (hb : BR P gl ρ M B o') :
    HR P gl F w0 (upd ρ σ.next M) ((σ.kill id).add B) w' := by
  have hl : Le ρ (upd ρ σ.next M) := Le.upd _ h.none_next
  have hnx : (σ.kill id).next = σ.next := rfl
  have hget : ∀ k, k ≠ σ.next → ((σ.kill id).add B).get k ≠ none → σ.get k ≠ none ∧ k ≠ id := fun k hk gk => by
    rw [St.get_add, hnx, if_neg hk, St.get_kill] at gk
    by_cases e : k = id
    · rw [if_pos e] at gk; exact (gk rfl).elim
    · rw [if_neg e] at gk; exact ⟨gk, e⟩
  refine ⟨hw.os.trans h.os, hw.tape.trans h.tape, hw.out.trans h.out, by rw [hw.size]; exact h.size, fun b hf => ⟨(h.frame b hf).1, ?_⟩, fun i N hm => ?_, fun i N B' hm hgt => ?_, fun i j N N' hm hm' gi gj e => ?_⟩
  · rw [hw.other b (fun e => hnr ((h.dom id L hi).2.2 (e ▸ hf)))]; exact (h.frame b hf).2
  · rw [St.next_add, hnx]
    unfold Ab.upd at hm
    by_cases e : i = σ.next
    · rw [if_pos e] at hm; cases hm
      exact ⟨by omega, by rw [hw.size, hM]; exact (h.dom id L hi).2.1, fun hf => absurd ((h.dom id L hi).2.2 (by rw [← hM]; exact hf)) hnr⟩
    · rw [if_neg e] at hm
      refine ⟨Nat.lt_succ_of_lt (h.dom i N hm).1, by rw [hw.size]; exact (h.dom i N hm).2.1, fun hf B' hB => ?_⟩
      rw [St.get_add, hnx, if_neg e, St.get_kill] at hB
      by_cases e' : i = id
      · rw [if_pos e'] at hB; cases hB
      · rw [if_neg e'] at hB; exact (h.dom i N hm).2.2 hf B' hB
  · unfold Ab.upd at hm
    by_cases e : i = σ.next
    · rw [if_pos e] at hm; cases hm
      rw [St.get_add, hnx, if_pos e] at hgt; cases hgt
      exact ⟨o', by rw [hM]; exact hw.at_, hb.mono hl⟩
    · rw [if_neg e] at hm
      have g := hget i e (by rw [hgt]; simp)
      rw [St.get_add, hnx, if_neg e, St.get_kill, if_neg g.2] at hgt
      obtain ⟨o, ho, hbr⟩ := h.blk i N B' hm hgt
      refine ⟨o, ?_, hbr.mono hl⟩
      rw [hw.other _ (fun eb => g.2 (h.inj i id N L hm hi g.1 hg eb))]
      exact ho
  · unfold Ab.upd at hm hm'
    by_cases ei : i = σ.next
    · by_cases ej : j = σ.next
      · rw [ei, ej]
      · rw [if_pos ei] at hm; rw [if_neg ej] at hm'; cases hm
        have g := hget j ej gj
        exact absurd (h.inj j id N' L hm' hi g.1 hg (by rw [← e, hM])) g.2
    · by_cases ej : j = σ.next
      · rw [if_neg ei] at hm; rw [if_pos ej] at hm'; cases hm'
        have g := hget i ei gi
        exact absurd (h.inj i id N L hm hi g.1 hg (by rw [e, hM])) g.2
      · rw [if_neg ei] at hm; rw [if_neg ej] at hm'
        exact h.inj i j N N' hm hm' (hget i ei gi).1 (hget j ej gj).1 e
theorem Ext.move {id : Nat} {L : Loc} (hi : ρ id = some L) (B : AB) (M : Loc) : Ext ρ σ (upd ρ σ.next M) ((σ.kill id).add B) :=
  ⟨by rw [St.next_add]; exact Nat.le_succ _, fun i h => by unfold Ab.upd; rw [if_neg (by omega)], fun i h hn => by
    rw [St.get_add, if_neg (by show i ≠ σ.next; omega), St.get_kill, if_neg (fun e => by rw [e, hi] at hn; cases hn)]⟩
theorem HR.drew (h : HR P gl F w0 ρ σ w) (d : Nat) : HR P gl F w0 ρ σ { w with drawn := d } := ⟨h.os, h.tape, h.out, h.size, h.frame, h.dom, h.blk, h.inj⟩
/-- a world like it, but for the count of draws -/
theorem HR.like (h : HR P gl F w0 ρ σ w) (h1 : w'.os = w.os) (h2 : w'.tape = w.tape) (h3 : w'.output = w.output) (h4 : w'.heap = w.heap) : HR P gl F w0 ρ σ w' :=
  ⟨h1.trans h.os, h2.trans h.tape, h3.trans h.out, by rw [h4]; exact h.size, by rw [h4]; exact h.frame, by rw [h4]; exact h.dom, by rw [h4]; exact h.blk, h.inj⟩

end Go.Proofs.YtjiaoppefinljaaGreatDoor.Ab
