/- Plain laws of numbers and texts in bytes. -/
set_option linter.unusedVariables false
set_option linter.unusedSimpArgs false
set_option linter.unusedSectionVars false
namespace Go.Proofs.YtjiaoppefinljaaGreatDoor.Pk
/-- a number's bytes -/
def enc (n : Nat) : List UInt8 := if n < 128 then [UInt8.ofNat n] else UInt8.ofNat (n % 128 + 128) :: enc (n / 128)
termination_by n
decreasing_by omega
theorem enc_low {n : Nat} (h : n < 128) : enc n = [UInt8.ofNat n] := by rw [enc, if_pos h]
theorem enc_high {n : Nat} (h : ¬ n < 128) : enc n = UInt8.ofNat (n % 128 + 128) :: enc (n / 128) := by rw [enc, if_neg h]
theorem enc_pos (n : Nat) : 0 < (enc n).length := by
  rw [enc]; split <;> simp
/-- the number that bytes begin with, from the i-th byte on: what it is, how many bytes it has; 0: none -/
def num : List UInt8 → Nat → Nat → Nat × Nat
  | [], _, acc => (acc, 0)
  | b :: t, i, acc =>
    if i = 10 then (acc, 0)
    else if i = 9 ∧ 1 < b.toNat then (acc, 0)
    else if b.toNat < 128 then (acc + b.toNat % 128 * 2 ^ (7 * i), if 0 < b.toNat ∨ i = 0 then i + 1 else 0)
    else num t (i + 1) (acc + b.toNat % 128 * 2 ^ (7 * i))

theorem toNat_ofNat {n : Nat} (h : n < 256) : (UInt8.ofNat n).toNat = n := by
  rw [UInt8.toNat_ofNat']; omega
theorem ofNat_toNat (b : UInt8) : UInt8.ofNat b.toNat = b := UInt8.ofNat_toNat

theorem pow_succ7 (i : Nat) : 2 ^ (7 * (i + 1)) = 128 * 2 ^ (7 * i) := by
  rw [show 7 * (i + 1) = 7 + 7 * i from by omega, Nat.pow_add]

/-- what is read was written -/
theorem num_enc : ∀ (s : List UInt8) (i acc n size : Nat), num s i acc = (n, size) → 0 < size → i ≤ 9 →
    ∃ m t, n = acc + m * 2 ^ (7 * i) ∧ s = enc m ++ t ∧ size = i + (enc m).length ∧ (0 < i → 0 < m) := by
  intro s
  induction s with
  | nil => intro i acc n size h hs; simp [num] at h; omega
  | cons b t ih =>
    intro i acc n size h hs hi
    unfold num at h
    by_cases h10 : i = 10
    · rw [if_pos h10] at h; simp at h; omega
    rw [if_neg h10] at h
    by_cases h9 : i = 9 ∧ 1 < b.toNat
    · rw [if_pos h9] at h; simp at h; omega
    rw [if_neg h9] at h
    by_cases hb : b.toNat < 128
    · rw [if_pos hb] at h
      simp only [Prod.mk.injEq] at h
      obtain ⟨rfl, hsz⟩ := h
      by_cases hz : 0 < b.toNat ∨ i = 0
      · rw [if_pos hz] at hsz
        refine ⟨b.toNat, t, ?_, ?_, ?_, ?_⟩
        · rw [Nat.mod_eq_of_lt hb]
        · rw [enc_low hb, ofNat_toNat]; rfl
        · rw [enc_low hb]; simp; omega
        · intro h0; omega
      · rw [if_neg hz] at hsz; omega
    · rw [if_neg hb] at h
      by_cases hi9 : i = 9
      · have : b.toNat < 256 := b.toNat_lt
        omega
      · obtain ⟨m, t', hn, hst, hsz, hm⟩ := ih (i + 1) _ n size h hs (by omega)
        have hbl : b.toNat < 256 := b.toNat_lt
        have hm0 := hm (by omega)
        refine ⟨b.toNat % 128 + 128 * m, t', ?_, ?_, ?_, ?_⟩
        · rw [hn, pow_succ7, Nat.add_mul, ← Nat.mul_assoc, Nat.mul_comm m 128, Nat.add_assoc]
        · rw [enc_high (by omega), hst]
          rw [show (b.toNat % 128 + 128 * m) % 128 = b.toNat % 128 from by omega, show (b.toNat % 128 + 128 * m) / 128 = m from by omega]
          rw [show b.toNat % 128 + 128 = b.toNat from by omega, ofNat_toNat]
          rfl
        · rw [enc_high (by omega), show (b.toNat % 128 + 128 * m) / 128 = m from by omega, hsz]
          simp; omega
        · intro _; omega
theorem num_back : ∀ (m i acc : Nat) (t : List UInt8), m * 2 ^ (7 * i) < 2 ^ 64 → i ≤ 9 → (0 < i → 0 < m) → num (enc m ++ t) i acc = (acc + m * 2 ^ (7 * i), i + (enc m).length) := by
  intro m
  induction m using Nat.strongRecOn with
  | ind m ih =>
    intro i acc t hlt hi hm
    have key9 : i = 9 → m ≤ 1 := by
      intro e
      subst e
      rw [show (2 : Nat) ^ (7 * 9) = 9223372036854775808 from rfl, show (2 : Nat) ^ 64 = 18446744073709551616 from rfl] at hlt
      omega
    by_cases h : m < 128
    · rw [enc_low h]
      show num (UInt8.ofNat m :: t) i acc = _
      unfold num
      rw [toNat_ofNat (by omega), if_neg (by omega), if_neg (by have := key9; omega), if_pos h, if_pos (by omega), Nat.mod_eq_of_lt h]
      rfl
    · have hi9 : i ≠ 9 := fun e => by have := key9 e; omega
      rw [enc_high h]
      show num (UInt8.ofNat (m % 128 + 128) :: (enc (m / 128) ++ t)) i acc = _
      unfold num
      rw [toNat_ofNat (by omega), if_neg (by omega), if_neg (by omega), if_neg (by omega)]
      have hdm := Nat.div_add_mod m 128
      rw [ih (m / 128) (by omega) (i + 1) _ t ?_ (by omega) (by omega)]
      · rw [pow_succ7, show (m % 128 + 128) % 128 = m % 128 from by omega]
        simp only [Prod.mk.injEq, List.length_cons]
        refine ⟨?_, by omega⟩
        rw [← Nat.mul_assoc, Nat.add_assoc, ← Nat.add_mul]
        congr 2
        omega
      · rw [pow_succ7, ← Nat.mul_assoc]
        refine Nat.lt_of_le_of_lt (Nat.mul_le_mul_right _ ?_) hlt
        omega
/-- a text's bytes -/
def txt (s : List UInt8) : List UInt8 := enc s.length ++ s

/-- what a reader has left; none: nothing is good any more -/
abbrev Rd := Option (List UInt8)
def rnum (r : Rd) (most : Nat) : Nat × Rd :=
  match r with
  | none => (0, none)
  | some s => if 0 < (num s 0 0).2 ∧ (num s 0 0).1 ≤ most then ((num s 0 0).1, some (s.drop (num s 0 0).2)) else (0, none)
def rtext (r : Rd) (most : Nat) : List UInt8 × Rd :=
  match (rnum r most).2 with
  | none => ([], none)
  | some s => if (rnum r most).1 ≤ s.length then (s.take (rnum r most).1, some (s.drop (rnum r most).1)) else ([], none)

theorem rnum_some {r : Rd} {most n : Nat} {t : List UInt8} (h : rnum r most = (n, some t)) : r = some (enc n ++ t) ∧ n ≤ most := by
  unfold rnum at h
  cases r with
  | none => simp at h
  | some s =>
    simp only at h
    split at h
    · rename_i hc
      obtain ⟨m, t', h1, h2, h3, _⟩ := num_enc s 0 0 _ _ rfl hc.1 (by omega)
      simp only [Prod.mk.injEq, Option.some.injEq] at h
      obtain ⟨rfl, rfl⟩ := h
      simp only [Nat.mul_zero, Nat.pow_zero, Nat.mul_one, Nat.zero_add] at h1 h3
      refine ⟨?_, hc.2⟩
      rw [h3, h1]
      congr 1
      conv => rhs; rhs; rw [h2]
      conv => lhs; rw [h2]
      rw [List.drop_append_of_le_length (Nat.le_refl _), List.drop_length, List.nil_append]
    · simp at h
theorem rnum_enc {most n : Nat} (t : List UInt8) (h : n ≤ most) (hm : most < 2 ^ 64) : rnum (some (enc n ++ t)) most = (n, some t) := by
  have hb := num_back n 0 0 t (by simp; omega) (by omega) (by omega)
  simp only [Nat.mul_zero, Nat.pow_zero, Nat.mul_one, Nat.zero_add] at hb
  unfold rnum
  simp only [hb]
  rw [if_pos ⟨enc_pos n, h⟩, List.drop_append_of_le_length (Nat.le_refl _), List.drop_length, List.nil_append]
theorem rtext_some {r : Rd} {most : Nat} {s t : List UInt8} (h : rtext r most = (s, some t)) : r = some (txt s ++ t) ∧ s.length ≤ most := by
  unfold rtext at h
  cases hr : (rnum r most).2 with
  | none => rw [hr] at h; simp at h
  | some u =>
    rw [hr] at h
    have he : rnum r most = ((rnum r most).1, some u) := by rw [← hr]
    obtain ⟨h1, h2⟩ := rnum_some he
    generalize (rnum r most).1 = n at *
    simp only at h
    split at h
    · rename_i hn
      simp only [Prod.mk.injEq, Option.some.injEq] at h
      obtain ⟨rfl, rfl⟩ := h
      have hl : (u.take n).length = n := by rw [List.length_take]; omega
      refine ⟨?_, by omega⟩
      unfold txt
      rw [hl, h1, List.append_assoc, List.take_append_drop]
    · simp at h
theorem rtext_txt {most : Nat} (s t : List UInt8) (h : s.length ≤ most) (hm : most < 2 ^ 64) : rtext (some (txt s ++ t)) most = (s, some t) := by
  unfold rtext txt
  rw [List.append_assoc, rnum_enc (s ++ t) h hm]
  simp only
  rw [if_pos (by simp)]
  simp
theorem rnum_none (most : Nat) : rnum none most = (0, none) := rfl
theorem rtext_none (most : Nat) : rtext none most = ([], none) := rfl
end Go.Proofs.YtjiaoppefinljaaGreatDoor.Pk

/- Plain laws of requests and events in bytes. -/
namespace Go.Proofs.YtjiaoppefinljaaGreatDoor.Pk
/-- a request -/
structure Rq where
  kind : Int
  purpose : Int
  source : List UInt8
  mail : List UInt8
  other : List UInt8
  secret : List UInt8
  password : List UInt8
/-- what a kind has: mail, other, secret, password, purpose -/
def partsL : List (Bool × Bool × Bool × Bool × Bool) :=
  [(false, false, false, false, false), (true, false, false, true, false), (true, false, true, false, false), (true, false, false, false, true), (true, false, true, false, false), (true, false, true, false, false),
   (true, false, true, true, false), (true, false, false, true, false), (false, true, true, false, false), (true, true, true, false, false), (true, true, false, true, false), (false, true, true, false, false),
   (true, false, false, false, false), (true, true, true, false, false), (false, false, true, false, false), (true, false, false, true, false), (false, false, true, false, false)]
def parts (kind : Int) : Bool × Bool × Bool × Bool × Bool := if 1 ≤ kind ∧ kind ≤ 16 then partsL.getD kind.toNat (false, false, false, false, false) else (false, false, false, false, false)
def fitText (s : List UInt8) (has : Bool) : Bool := (has == !s.isEmpty) && decide (s.length ≤ 64)
def checkR (r : Rq) : Bool :=
  decide (1 ≤ r.kind ∧ r.kind ≤ 16) && fitText r.mail (parts r.kind).1 && fitText r.other (parts r.kind).2.1 && fitText r.secret (parts r.kind).2.2.1 && fitText r.password (parts r.kind).2.2.2.1 &&
    decide ((if (parts r.kind).2.2.2.2 then 2 else 0) ≤ r.purpose ∧ r.purpose ≤ (if (parts r.kind).2.2.2.2 then 4 else 0)) && !r.source.isEmpty && decide (r.source.length ≤ 20)
def bytesRaw (r : Rq) : List UInt8 := enc r.kind.toNat ++ (enc r.purpose.toNat ++ (txt r.source ++ (txt r.mail ++ (txt r.other ++ (txt r.secret ++ txt r.password)))))
def bytesR (r : Rq) : List UInt8 := if checkR r then bytesRaw r else []
/-- the request that bytes are, as far as it was read; what is left -/
def takeR (s : List UInt8) : Rq × Rd :=
  let k := rnum (some s) 16
  let p := rnum k.2 4
  let a := rtext p.2 20
  let b := rtext a.2 64
  let c := rtext b.2 64
  let d := rtext c.2 64
  let e := rtext d.2 64
  (⟨k.1, p.1, a.1, b.1, c.1, d.1, e.1⟩, e.2)
def readR (s : List UInt8) : Option Rq := if (takeR s).2 = some [] ∧ checkR (takeR s).1 = true then some (takeR s).1 else none

theorem rnum_some' {r : Rd} {most : Nat} {t : List UInt8} (h : (rnum r most).2 = some t) : r = some (enc (rnum r most).1 ++ t) ∧ (rnum r most).1 ≤ most :=
  rnum_some (by rw [← h])
theorem rtext_some' {r : Rd} {most : Nat} {t : List UInt8} (h : (rtext r most).2 = some t) : r = some (txt (rtext r most).1 ++ t) ∧ (rtext r most).1.length ≤ most :=
  rtext_some (by rw [← h])

theorem takeR_bytes {s : List UInt8} (h : (takeR s).2 = some []) : s = bytesRaw (takeR s).1 := by
  unfold takeR at h ⊢
  simp only at h ⊢
  obtain ⟨h1, _⟩ := rtext_some' h
  obtain ⟨h2, _⟩ := rtext_some' h1
  obtain ⟨h3, _⟩ := rtext_some' h2
  obtain ⟨h4, _⟩ := rtext_some' h3
  obtain ⟨h5, _⟩ := rtext_some' h4
  obtain ⟨h6, _⟩ := rnum_some' h5
  obtain ⟨h7, _⟩ := rnum_some' h6
  unfold bytesRaw
  have := Option.some.inj h7
  simp only [Int.toNat_natCast]
  rw [List.append_nil] at this
  exact this
theorem readR_bytes {s : List UInt8} {r : Rq} (h : readR s = some r) : bytesR r = s := by
  unfold readR at h
  split at h
  · rename_i hc
    simp only [Option.some.injEq] at h
    subst h
    unfold bytesR
    rw [if_pos hc.2]
    exact (takeR_bytes hc.1).symm
  · cases h

/-- an event -/
structure Ev where
  kind : Int
  account : Int
  purpose : Int
  at_ : Int
  n : Int
  a : List UInt8
  b : List UInt8
  c : List UInt8
def checkE (e : Ev) : Bool :=
  decide (1 ≤ e.kind ∧ e.kind ≤ 21) && decide (0 ≤ e.account ∧ e.account ≤ 99) && decide (0 ≤ e.purpose ∧ e.purpose ≤ 9) && decide (0 ≤ e.at_ ∧ e.at_ ≤ 1099511627776) && decide (0 ≤ e.n ∧ e.n ≤ 1099511627776) &&
    decide (e.a.length ≤ 100) && decide (e.b.length ≤ 100) && decide (e.c.length ≤ 100)
def putE (e : Ev) : List UInt8 := enc e.kind.toNat ++ (enc e.account.toNat ++ (enc e.purpose.toNat ++ (enc e.at_.toNat ++ (enc e.n.toNat ++ (txt e.a ++ (txt e.b ++ txt e.c))))))
def takeE (r : Rd) : Ev × Rd :=
  let k := rnum r 21
  let p := rnum k.2 99
  let q := rnum p.2 9
  let t := rnum q.2 1099511627776
  let m := rnum t.2 1099511627776
  let a := rtext m.2 100
  let b := rtext a.2 100
  let c := rtext b.2 100
  (⟨k.1, p.1, q.1, t.1, m.1, a.1, b.1, c.1⟩, c.2)
structure OkE (e : Ev) : Prop where
  kind : 1 ≤ e.kind ∧ e.kind ≤ 21
  account : 0 ≤ e.account ∧ e.account ≤ 99
  purpose : 0 ≤ e.purpose ∧ e.purpose ≤ 9
  at_ : 0 ≤ e.at_ ∧ e.at_ ≤ 1099511627776
  n : 0 ≤ e.n ∧ e.n ≤ 1099511627776
  a : e.a.length ≤ 100
  b : e.b.length ≤ 100
  c : e.c.length ≤ 100
theorem checkE_iff (e : Ev) : checkE e = true ↔ OkE e := by
  unfold checkE
  simp only [Bool.and_eq_true, decide_eq_true_eq]
  constructor
  · rintro ⟨⟨⟨⟨⟨⟨⟨h1, h2⟩, h3⟩, h4⟩, h5⟩, h6⟩, h7⟩, h8⟩; exact ⟨h1, h2, h3, h4, h5, h6, h7, h8⟩
  · rintro ⟨h1, h2, h3, h4, h5, h6, h7, h8⟩; exact ⟨⟨⟨⟨⟨⟨⟨h1, h2⟩, h3⟩, h4⟩, h5⟩, h6⟩, h7⟩, h8⟩
theorem takeE_some {r : Rd} {t : List UInt8} (h : (takeE r).2 = some t) : r = some (putE (takeE r).1 ++ t) := by
  unfold takeE at h ⊢
  simp only at h ⊢
  obtain ⟨h1, _⟩ := rtext_some' h
  obtain ⟨h2, _⟩ := rtext_some' h1
  obtain ⟨h3, _⟩ := rtext_some' h2
  obtain ⟨h4, _⟩ := rnum_some' h3
  obtain ⟨h5, _⟩ := rnum_some' h4
  obtain ⟨h6, _⟩ := rnum_some' h5
  obtain ⟨h7, _⟩ := rnum_some' h6
  obtain ⟨h8, _⟩ := rnum_some' h7
  refine h8.trans (congrArg some ?_)
  unfold putE
  simp only [Int.toNat_natCast, List.append_assoc]
theorem takeE_put {e : Ev} (h : OkE e) (t : List UInt8) : takeE (some (putE e ++ t)) = (e, some t) := by
  obtain ⟨h1, h2, h3, h4, h5, h6, h7, h8⟩ := h
  obtain ⟨k, p, q, at_, n, a, b, c⟩ := e
  simp only at h1 h2 h3 h4 h5 h6 h7 h8
  unfold takeE putE
  simp only [List.append_assoc]
  rw [rnum_enc _ (by omega) (by decide)]
  simp only
  rw [rnum_enc _ (by omega) (by decide)]
  simp only
  rw [rnum_enc _ (by omega) (by decide)]
  simp only
  rw [rnum_enc _ (by omega) (by decide)]
  simp only
  rw [rnum_enc _ (by omega) (by decide)]
  simp only
  rw [rtext_txt _ _ h6 (by decide)]
  simp only
  rw [rtext_txt _ _ h7 (by decide)]
  simp only
  rw [rtext_txt _ _ h8 (by decide)]
  simp only [Prod.mk.injEq, Ev.mk.injEq, and_true]
  omega
/-- so many events -/
def evs : Nat → Rd → Option (List Ev × Rd)
  | 0, r => some ([], r)
  | n + 1, r => if checkE (takeE r).1 then (evs n (takeE r).2).map fun x => ((takeE r).1 :: x.1, x.2) else none
def readB (s : List UInt8) : Option (List Ev) :=
  match evs (rnum (some s) 24).1 (rnum (some s) 24).2 with
  | none => none
  | some (l, r) => if r = some [] ∧ l ≠ [] then some l else none
def putsE (l : List Ev) : List UInt8 := (l.map putE).flatten
def batchB (l : List Ev) : Option (List UInt8) := if 1 ≤ l.length ∧ l.length ≤ 24 ∧ ∀ e ∈ l, checkE e = true then some (enc l.length ++ putsE l) else none

theorem takeE_none : (takeE none).1.kind = 0 := rfl
theorem evs_some : ∀ (n : Nat) (r : Rd) (l : List Ev) (t : List UInt8), evs n r = some (l, some t) → r = some (putsE l ++ t) ∧ l.length = n ∧ ∀ e ∈ l, checkE e = true := by
  intro n
  induction n with
  | zero =>
    intro r l t h
    simp only [evs, Option.some.injEq, Prod.mk.injEq] at h
    obtain ⟨rfl, rfl⟩ := h
    exact ⟨rfl, rfl, by simp⟩
  | succ n ih =>
    intro r l t h
    unfold evs at h
    split at h
    · rename_i hc
      cases hx : evs n (takeE r).2 with
      | none => rw [hx] at h; cases h
      | some x =>
        rw [hx] at h
        simp only [Option.map_some, Option.some.injEq, Prod.mk.injEq] at h
        obtain ⟨rfl, ht⟩ := h
        obtain ⟨x1, x2⟩ := x
        simp only at ht
        subst ht
        obtain ⟨h1, h2, h3⟩ := ih _ _ _ hx
        refine ⟨?_, by simp [h2], ?_⟩
        · refine (takeE_some h1).trans (congrArg some ?_)
          simp [putsE, List.append_assoc]
        · intro e he
          rcases List.mem_cons.1 he with rfl | he
          · exact hc
          · exact h3 e he
    · cases h
theorem evs_puts : ∀ (l : List Ev) (t : List UInt8), (∀ e ∈ l, checkE e = true) → evs l.length (some (putsE l ++ t)) = some (l, some t) := by
  intro l
  induction l with
  | nil => intro t _; rfl
  | cons e l ih =>
    intro t h
    have he := (checkE_iff e).1 (h e (by simp))
    have hp : putsE (e :: l) ++ t = putE e ++ (putsE l ++ t) := by simp [putsE, List.append_assoc]
    show evs (l.length + 1) _ = _
    unfold evs
    rw [hp, takeE_put he, if_pos (h e (by simp))]
    simp only
    rw [ih t (fun x hx => h x (List.mem_cons_of_mem _ hx))]
    rfl
/-- what was read is a batch's bytes -/
theorem readB_batch {s : List UInt8} {l : List Ev} (h : readB s = some l) : batchB l = some s := by
  unfold readB at h
  cases hx : evs (rnum (some s) 24).1 (rnum (some s) 24).2 with
  | none => rw [hx] at h; cases h
  | some x =>
    obtain ⟨l', r⟩ := x
    rw [hx] at h
    simp only at h
    split at h
    · rename_i hc
      simp only [Option.some.injEq] at h
      subst h
      obtain ⟨rfl, hne⟩ := hc
      obtain ⟨h1, h2, h3⟩ := evs_some _ _ _ _ hx
      obtain ⟨h4, h5⟩ := rnum_some' h1
      have hlen : 1 ≤ l'.length := by
        cases l' with
        | nil => exact absurd rfl hne
        | cons _ _ => simp
      unfold batchB
      rw [if_pos ⟨hlen, by omega, h3⟩, h2]
      rw [List.append_nil] at h4
      exact h4.symm
    · cases h
theorem batch_readB {l : List Ev} {s : List UInt8} (h : batchB l = some s) : readB s = some l := by
  unfold batchB at h
  split at h
  · rename_i hc
    obtain ⟨h1, h2, h3⟩ := hc
    simp only [Option.some.injEq] at h
    subst h
    unfold readB
    rw [rnum_enc _ h2 (by decide)]
    simp only
    have := evs_puts l [] h3
    rw [List.append_nil] at this
    rw [this]
    simp only
    rw [if_pos]
    refine ⟨trivial, ?_⟩
    intro e
    subst e
    simp at h1
  · cases h
end Go.Proofs.YtjiaoppefinljaaGreatDoor.Pk
