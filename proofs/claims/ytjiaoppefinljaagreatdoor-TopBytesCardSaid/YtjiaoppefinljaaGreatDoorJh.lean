/- Contracts of events: a batch is read. -/
import Derived.Test.YtjiaoppefinljaaGreatDoorJg
import Derived.Test.YtjiaoppefinljaaGreatDoorJf
import Derived.Test.YtjiaoppefinljaaGreatDoorJe
import Derived.Test.YtjiaoppefinljaaGreatDoorJd
set_option linter.unusedVariables false
set_option linter.unusedSimpArgs false
set_option linter.unusedSectionVars false
namespace Go.Proofs.YtjiaoppefinljaaGreatDoor.Pk
open Go.RowKit
set_option maxRecDepth 100000

theorem rtext_le (r : Rd) (most : Nat) : (rtext r most).1.length ≤ most := by
  unfold rtext
  split
  · simp
  · split
    · have := rnum_le r most
      rw [List.length_take]
      omega
    · simp
theorem takeE_len (r : Rd) : (takeE r).1.a.length ≤ 100 ∧ (takeE r).1.b.length ≤ 100 ∧ (takeE r).1.c.length ≤ 100 := ⟨rtext_le _ _, rtext_le _ _, rtext_le _ _⟩
theorem takeE_short {r : Rd} (h : Short r) : Short (takeE r).2 :=
  ((((((((h.rnum 21).rnum 99).rnum 9).rnum 1099511627776).rnum 1099511627776).rtext 100).rtext 100).rtext 100)
theorem own_ne_rd {w : World} {base b : Nat} {v : Value} {n : Nat} {xs : List Value} {r : Rd} (h : w.ownsRow base 35 8 v n xs) (hr : RdAt w b r) : v.ownBlock = none ∨ v.ownBlock ≠ some b := by
  rcases h.2 with ⟨rfl, _⟩ | ⟨g, cap, cur, rfl, _, hg, _⟩
  · exact Or.inl rfl
  · refine Or.inr fun e => ?_
    simp only [Value.ownBlock, Option.some.injEq] at e
    subst e
    unfold RdAt at hr
    rw [hg] at hr
    injection hr with hr
    injection hr with _ h2
    exact absurd h2 (by decide)
theorem news8 (w : World) (e : Ev) : ∀ j u, e.cells[j]? = some u → (w.alloc (.cells #[.int .i64 e.kind, .int .i64 e.account, .int .i64 e.purpose, .int .i64 e.at_, .int .i64 e.n, .string (bs e.a), .string (bs e.b), .string (bs e.c)] 35)).cell? ((⟨w.heap.size, 0, none⟩ : Addr).add j) = some u := by
  intro j u hj
  rw [Addr.add_lit]
  unfold World.cell?
  rw [Nat.zero_add, heap_alloc_new]
  exact (List.getElem?_toArray).trans hj

/-- Read's code -/
def rdCode (x : Option (List Ev)) : Int := if x.isSome then 0 else 10
def rdList (x : Option (List Ev)) : List Ev := x.getD []
theorem own_slice {w : World} {base : Nat} {v : Value} {n : Nat} {xs : List Value} (h : w.ownsRow base 35 8 v n xs) : ∃ ao c, v = .slice ao n c := by
  rcases h.2 with ⟨rfl, hn⟩ | ⟨g, cap, cur, rfl, _⟩
  · exact ⟨none, 0, by rw [hn]⟩
  · exact ⟨_, _, rfl⟩
set_option maxHeartbeats 8000000 in
theorem evRead_any (s : List UInt8) (hs : s.length ≤ maxLen) (w : World) :
    Calls Tryz.prog 7 #[.string (bs s)] w fun r w' => ∃ v, r = .returned (.tuple #[v, .int .i64 (rdCode (readB s))]) ∧ EvSl v (rdList (readB s)) w' ∧ Below w.heap.size w w' := by
  obtain ⟨i0, hi, hz0, hz1, hz2⟩ := info35_parts
  have hs0 : Short (some s) := fun t ht => by cases ht; exact hs
  have hs1 := hs0.rnum 24
  have hn24 := rnum_le (some s) 24
  have HB : Hid (readB s = match evs (rnum (some s) 24).1 (rnum (some s) 24).2 with | none => none | some (l, r) => if r = some [] ∧ l ≠ [] then some l else none) := Lib.hid rfl
  have hr0 : RdAt (w.alloc (.cells #[.string (bs s), .bool false] 83)) w.heap.size (some s) := heap_alloc_new _ _
  have hnum := Num_any w.heap.size (some s) 24 _ hr0 hs0
  generalize (rnum (some s) 24).1 = n at *
  generalize (rnum (some s) 24).2 = r1 at *
  generalize readB s = RB at *
  have hw0 : Below w.heap.size w (w.alloc (.cells #[.string (bs s), .bool false] 83)) := (Below.refl _ w).alloc (Nat.le_refl _) _
  clear hr0
  go_enter Tryz.func7, Tryz.ntmps7
  go_wp2_with fail
  go_at_call 12
  refine (Read_any _ _).mono ?_
  rintro r w1 ⟨rfl, hw1⟩
  subst hw1
  go_wp2_with fail
  go_at_call 13
  refine hnum.mono ?_
  rintro r w2 ⟨rfl, hr2, hk2⟩
  have hB2 : Below w.heap.size w w2 := Keep.below hw0 hk2 (by simp) (by simp)
  have HR2 := Lib.hid hr2
  have HS2 := Lib.hid hs1
  clear hr2 hk2 hw0 hnum hs1 hs0
  go_wp2_with fail
  go_loopw [5, 6, 11] (fun v5 _ v11 wr => ∃ (k : Nat) (lk : List Ev) (rk : Rd), k ≤ n ∧ v11 = .int .u64 (k : Int) ∧ lk.length = k ∧ Hid (wr.ownsRow w.heap.size 35 8 v5 lk.length (cells8 lk)) ∧ Hid (evs n r1 = (evs (n - k) rk).map fun x => (lk ++ x.1, x.2)) ∧ Hid (RdAt wr w.heap.size rk) ∧ Hid (Short rk) ∧ Below w.heap.size w wr)
    (fun _ _ v11 _ => n - (intOf v11).toNat)
  case atStart => exact ⟨0, [], r1, by omega, rfl, rfl, Lib.hid (World.ownsRow_nil _ _ _ _), Lib.hid (by simp), HR2, HS2, hB2⟩
  case round =>
    obtain ⟨k, lk, rk, hk, rfl, hlk, HO, HE, HR, HS, hB⟩ := hrel
    by_cases hlt : k < n
    · have hkz : (k : Int) < (n : Int) := by omega
      have hcall := evTake_any w.heap.size rk wr HR.out HS.out
      obtain ⟨ha, hb', hc⟩ := takeE_len rk
      have hs3 := Lib.hid (takeE_short HS.out)
      have HE2 : Hid (evs n r1 = (if checkE (takeE rk).1 then (evs (n - (k + 1)) (takeE rk).2).map fun x => ((takeE rk).1 :: x.1, x.2) else none).map fun x => (lk ++ x.1, x.2)) := Lib.hid (by
        rw [HE.out, show n - k = (n - (k + 1)) + 1 from by omega]
        rfl)
      generalize (takeE rk).1 = e at *
      generalize (takeE rk).2 = r3 at *
      have hck := fun W => evCheck_any e (by unfold maxLen; omega) (by unfold maxLen; omega) (by unfold maxLen; omega) W
      unfold Ev.val at hcall hck
      clear ha hb' hc
      have hz : IntKind.u64.wrap ((k : Int) + 1) = (k : Int) + 1 := by show ((k : Int) + 1) % (2 : Int) ^ 64 = _; omega
      cases hce : checkE e with
      | false =>
        have HN : Hid (RB = none) := Lib.hid (by rw [HB.out, HE2.out, hce]; rfl)
        rw [hce] at hck
        clear hce HE2
        go_wp2_with fail
        go_at_call 20
        refine hcall.mono ?_
        rintro r w3 ⟨rfl, hr3, hk3⟩
        have hB3 : Below w.heap.size w w3 := Keep.below hB hk3 (by simp) hB.size
        clear hr3 hk3 hcall
        go_wp2_with fail
        go_at_call 9
        refine (hck _).mono ?_
        rintro r w4 ⟨rfl, hb4⟩
        have hB4 : Below w.heap.size w w4 := (hB3.alloc hB3.size _).trans (hb4.mono (by simp; have := hB3.size; omega))
        go_wp2_with fail
        go_ret2
        exact ⟨_, by rw [HN.out]; rfl, by rw [HN.out]; exact evSl_nil _, hB4⟩
      | true =>
        rw [hce] at hck
        have HE3 : Hid (evs n r1 = (evs (n - (k + 1)) r3).map fun x => (lk ++ [e] ++ x.1, x.2)) := Lib.hid (by
          rw [HE2.out, hce, if_pos rfl, Option.map_map]
          congr 1
          funext x
          simp)
        clear hce HE2
        go_wp2_with fail
        go_at_call 20
        refine hcall.mono ?_
        rintro r w3 ⟨rfl, hr3, hk3⟩
        have hB3 : Below w.heap.size w w3 := Keep.below hB hk3 (by simp) hB.size
        have ho3 : w3.ownsRow w.heap.size 35 8 u5 lk.length (cells8 lk) := HO.out.kept hk3.grown (own_ne_rd HO.out HR.out)
        have HR3 := Lib.hid hr3
        clear hr3 hk3 hcall HO HR
        go_wp2_with fail
        go_at_call 9
        refine (hck _).mono ?_
        rintro r w4 ⟨rfl, hb4⟩
        have hB3s := hB3.size
        have hB4 : Below w.heap.size w w4 := (hB3.alloc hB3.size _).trans (hb4.mono (by simp; omega))
        have ho4 : w4.ownsRow w.heap.size 35 8 u5 lk.length (cells8 lk) := (ho3.alloc _).kept (Below.grown' hb4) (by cases hv : u5.ownBlock <;> simp)
        have hrow : w4.heap[w3.heap.size]? = some (.cells #[.int .i64 e.kind, .int .i64 e.account, .int .i64 e.purpose, .int .i64 e.at_, .int .i64 e.n, .string (bs e.a), .string (bs e.b), .string (bs e.c)] 35 (0, 0)) := by
          rw [hb4.block w3.heap.size (by simp)]
          exact heap_alloc_new _ _
        have HR4 : Hid (RdAt w4 w.heap.size r3) := Lib.hid (by
          have hlt3 := (Array.getElem?_eq_some_iff.1 HR3.out).1
          have h5 : RdAt (w3.alloc (.cells #[.int .i64 e.kind, .int .i64 e.account, .int .i64 e.purpose, .int .i64 e.at_, .int .i64 e.n, .string (bs e.a), .string (bs e.b), .string (bs e.c)] 35)) w.heap.size r3 := (Lib.alloc_old w3 _ _ hlt3).trans HR3.out
          exact (hb4.block w.heap.size (by simp; omega)).trans h5)
        have q0 := row_cell hrow 0 rfl
        have q1 := row_cell hrow 1 rfl
        have q2 := row_cell hrow 2 rfl
        have q3 := row_cell hrow 3 rfl
        have q4 := row_cell hrow 4 rfl
        have q5 := row_cell hrow 5 rfl
        have q6 := row_cell hrow 6 rfl
        have q7 := row_cell hrow 7 rfl
        have HN1 := Lib.hid (news8 w4 e)
        have hB4s := hB4.size
        clear hrow hb4 hck
        go_wp2_with (at_builtin; refine wpList_append_own _ rfl _ _ 22 rfl w.heap.size 35 i0 _ 8 88 Tryz.underlying22 hi hz0 hz1 hz2 rfl (by omega) _ lk.length (cells8 lk) rfl (ho4.alloc _) ⟨w4.heap.size, 0, none⟩ 1 1 e.cells rfl rfl HN1.out (cells_one8 e) (by unfold maxLen; omega) (by omega) (by simp; omega) ?_)
        intro v' w5 hown5 hgrow _
        have hB5 : Below w.heap.size w w5 := (hB4.alloc hB4.size _).grown hgrow (by simp; omega) (fun j hj => (ho4.lt j hj).1)
        have hne4 := own_ne_rd ho4 HR4.out
        have HR5 : Hid (RdAt w5 w.heap.size r3) := Lib.hid (by
          have hlt3 := (Array.getElem?_eq_some_iff.1 HR4.out).1
          refine (hgrow.block w.heap.size (by simp; omega) ?_).trans ((Lib.alloc_old w4 _ _ hlt3).trans HR4.out)
          intro e5
          rcases hne4 with h | h
          · rw [h] at e5; cases e5
          · exact h e5.symm)
        have HO5 : Hid (w5.ownsRow w.heap.size 35 8 v' (lk ++ [e]).length (cells8 (lk ++ [e]))) := Lib.hid (by
          rw [cells8_append, show cells8 [e] = e.cells from by simp [cells8], List.length_append, hlk]
          exact hown5)
        clear hown5 hgrow q0 q1 q2 q3 q4 q5 q6 q7 ho3 ho4 HN1
        go_wp2_with fail
        go_roundw
        case rel => exact ⟨k + 1, lk ++ [e], r3, by omega, by first | go_num | (rw [hz]; rfl) | simp, by simp [hlk], HO5, HE3, HR5, hs3, hB5⟩
        case measure => simp [intOf]; omega
    · obtain rfl : k = n := by omega
      have hkz : ¬ (k : Int) < (k : Int) := by omega
      have HE2 : Hid (RB = if rk = some [] ∧ lk ≠ [] then some lk else none) := Lib.hid (by
        rw [HB.out, HE.out, Nat.sub_self]
        simp [evs])
      have hend := End_any w.heap.size rk wr HR.out
      have HS5 := Lib.hid (owned_evSl HO.out)
      obtain ⟨ao, c, rfl⟩ := own_slice HO.out
      clear HE HB HO HR
      by_cases hE : rk = some []
      · rw [decide_eq_true hE] at hend
        by_cases hl : lk = []
        · have HN : Hid (RB = none) := Lib.hid (by rw [HE2.out, if_neg (fun hh => hh.2 hl)])
          have hz0 : ((lk.length : Int) == 0) = true := beq_iff_eq.2 (by rw [hl]; rfl)
          clear hl hE
          go_wp2_with fail
          go_at_call 15
          refine hend.mono ?_
          rintro r w3 ⟨rfl, hw3⟩
          subst hw3
          go_wp2_with fail
          go_ret2
          exact ⟨_, by rw [HN.out]; rfl, by rw [HN.out]; exact evSl_nil _, hB⟩
        · have HN : Hid (RB = some lk) := Lib.hid (by rw [HE2.out, if_pos ⟨hE, hl⟩])
          have hz0 : ((lk.length : Int) == 0) = false := beq_eq_false_iff_ne.2 (fun h => hl (List.eq_nil_of_length_eq_zero (by omega)))
          clear hl hE
          go_wp2_with fail
          go_at_call 15
          refine hend.mono ?_
          rintro r w3 ⟨rfl, hw3⟩
          subst hw3
          go_wp2_with fail
          go_ret2
          exact ⟨_, by rw [HN.out]; rfl, by rw [HN.out]; have h9 := HS5.out; rw [hlk] at h9; exact h9, hB⟩
      · rw [decide_eq_false hE] at hend
        have HN : Hid (RB = none) := Lib.hid (by rw [HE2.out, if_neg (fun hh => hE hh.1)])
        clear hE
        go_wp2_with fail
        go_at_call 15
        refine hend.mono ?_
        rintro r w3 ⟨rfl, hw3⟩
        subst hw3
        go_wp2_with fail
        go_ret2
        exact ⟨_, by rw [HN.out]; rfl, by rw [HN.out]; exact evSl_nil _, hB⟩
end Go.Proofs.YtjiaoppefinljaaGreatDoor.Pk

/- Contracts of events' bytes, and of requests'. -/
namespace Go.Proofs.YtjiaoppefinljaaGreatDoor.Pk
open Go.RowKit Go.Proofs.YtjiaoppefinljaaGreatDoor.Bkt
set_option maxRecDepth 100000

/-- what holds all along a region that writes: a row that stays, and the writer -/
structure WReg (B b C : Nat) (cs : Array Value) (T : TypeId) (w : World) (S : Option (List UInt8)) (W : World) : Prop where
  wrote : Wrote B b w W
  row : W.heap[C]? = some (.cells cs T (0, 0))
  at_ : ∀ l, S = some l → WrAt W B b l
  bw : B ≤ W.heap.size
  blt : b < W.heap.size
theorem WReg.cell {B b C : Nat} {cs : Array Value} {T : TypeId} {w : World} {S : Option (List UInt8)} {W : World} (h : WReg B b C cs T w S W) {i : Nat} {v : Value} (hv : cs[i]? = some v) : W.cell? ⟨C, i, none⟩ = some v := by
  rw [Lib.cell_of_heap h.row]; exact hv
theorem WReg.size_ne {B b C : Nat} {cs : Array Value} {T : TypeId} {w : World} {S : Option (List UInt8)} {W : World} (h : WReg B b C cs T w S W) : W.heap.size ≠ b := by have := h.blt; omega
theorem WReg.alloc {B b C : Nat} {cs : Array Value} {T : TypeId} {w : World} {S : Option (List UInt8)} {W : World} (h : WReg B b C cs T w S W) (o : Obj) : WReg B b C cs T w S (W.alloc o) :=
  ⟨⟨h.wrote.below.alloc h.bw o, h.wrote.kept.alloc o⟩, (Lib.alloc_old W o C (Array.getElem?_eq_some_iff.1 h.row).1).trans h.row, fun l hl => Lib.IsBuilderF.alloc (h.at_ l hl) o, by simp; have := h.bw; omega, by simp; have := h.blt; omega⟩
theorem WReg.call {B b C : Nat} {cs : Array Value} {T : TypeId} {w : World} {S S2 : Option (List UInt8)} {W X : World} (h : WReg B b C cs T w S W) (k : Wrote B b W X) (hC : C ≠ b) (hT : T ≠ 5) (hS : ∀ l, S2 = some l → WrAt X B b l) : WReg B b C cs T w S2 X :=
  ⟨h.wrote.trans k, k.kept C _ h.row (by simpa using hC) (by intro c fz e; injection e with _ e2; exact hT e2), hS, Nat.le_trans h.bw k.size, Nat.lt_of_lt_of_le h.blt k.size⟩
def ph2 (a c : Bool) (l0 l1 l2 : List UInt8) : Option (List UInt8) := if c then some l2 else if a then some l1 else some l0
def ph3 (a c f : Bool) (l0 l1 l2 : List UInt8) : Option (List UInt8) := if f then none else if c then some l2 else if a then some l1 else some l0
theorem set_ne {d : Nat → Bool} {j k : Nat} (h : k ≠ j) : Facts.Up.set d j k = d k := by
  unfold Facts.Up.set
  rw [beq_false_of_ne h, Bool.false_or]
theorem set_eq (d : Nat → Bool) (j : Nat) : Facts.Up.set d j j = true := by
  unfold Facts.Up.set
  rw [beq_self_eq_true, Bool.true_or]
theorem WReg.same2 {B b C : Nat} {cs : Array Value} {T : TypeId} {w W : World} {d : Nat → Bool} {m1 m2 j : Nat} {l0 l1 l2 : List UInt8} (h : WReg B b C cs T w (ph2 (d m1) (d m2) l0 l1 l2) W) (h1 : m1 ≠ j) (h2 : m2 ≠ j) :
    WReg B b C cs T w (ph2 (Facts.Up.set d j m1) (Facts.Up.set d j m2) l0 l1 l2) W := by rw [set_ne h1, set_ne h2]; exact h
theorem WReg.same3 {B b C : Nat} {cs : Array Value} {T : TypeId} {w W : World} {d : Nat → Bool} {m1 m2 m3 j : Nat} {l0 l1 l2 : List UInt8} (h : WReg B b C cs T w (ph3 (d m1) (d m2) (d m3) l0 l1 l2) W) (h1 : m1 ≠ j) (h2 : m2 ≠ j) (h3 : m3 ≠ j) :
    WReg B b C cs T w (ph3 (Facts.Up.set d j m1) (Facts.Up.set d j m2) (Facts.Up.set d j m3) l0 l1 l2) W := by rw [set_ne h1, set_ne h2, set_ne h3]; exact h
theorem _root_.Go.Proofs.YtjiaoppefinljaaGreatDoor.Bkt.Facts.Up.Closed.no {ops : Array Oper} {d : Nat → Bool} (hc : Facts.Up.Closed ops d) {i j : Nat} (hj : d j = false) (hw : Facts.Up.waits ops i j = true) : d i = false := by
  cases hi : d i with
  | false => rfl
  | true => rw [hc i j hi hw] at hj; cases hj

def Ev.nums (e : Ev) : List Nat := [e.kind.toNat, e.account.toNat, e.purpose.toNat, e.at_.toNat, e.n.toNat]
def Ev.txts (e : Ev) : List (List UInt8) := [e.a, e.b, e.c]
theorem putE_eq (e : Ev) : putE e = encs e.nums ++ txts e.txts := by
  unfold putE encs txts Ev.nums Ev.txts
  simp [List.append_assoc]
/-- what each operation of the statement leaves -/
def putF (b C : Nat) (e : Ev) : Nat → Value → World → Prop
  | 0, v, _ => v = .pointer (some ⟨b, 0, none⟩)
  | 1, v, _ => v = .pointer (some ⟨C, 0, none⟩)
  | 2, v, _ => v = .int .i64 e.kind
  | 3, v, _ => v = .int .u64 ((e.kind.toNat : Nat) : Int)
  | 4, v, _ => v = .pointer (some ⟨C, 1, none⟩)
  | 5, v, _ => v = .int .i64 e.account
  | 6, v, _ => v = .int .u64 ((e.account.toNat : Nat) : Int)
  | 7, v, _ => v = .pointer (some ⟨C, 2, none⟩)
  | 8, v, _ => v = .int .i64 e.purpose
  | 9, v, _ => v = .int .u64 ((e.purpose.toNat : Nat) : Int)
  | 10, v, _ => v = .pointer (some ⟨C, 3, none⟩)
  | 11, v, _ => v = .int .i64 e.at_
  | 12, v, _ => v = .int .u64 ((e.at_.toNat : Nat) : Int)
  | 13, v, _ => v = .pointer (some ⟨C, 4, none⟩)
  | 14, v, _ => v = .int .i64 e.n
  | 15, v, _ => v = .int .u64 ((e.n.toNat : Nat) : Int)
  | 16, v, W => ∃ g, v = .slice (some ⟨g, 0, none⟩) 5 5 ∧ g ≠ b ∧ W.heap[g]? = some (.cells (numCells e.nums) 46 (0, 0))
  | 17, v, _ => v = .pointer (some ⟨b, 0, none⟩)
  | 18, v, _ => v = .pointer (some ⟨C, 5, none⟩)
  | 19, v, _ => v = .string (bs e.a)
  | 20, v, _ => v = .pointer (some ⟨C, 6, none⟩)
  | 21, v, _ => v = .string (bs e.b)
  | 22, v, _ => v = .pointer (some ⟨C, 7, none⟩)
  | 23, v, _ => v = .string (bs e.c)
  | 24, v, W => ∃ g, v = .slice (some ⟨g, 0, none⟩) 3 3 ∧ g ≠ b ∧ W.heap[g]? = some (.cells (txtCells e.txts) 9 (0, 0))
  | _, _, _ => True
theorem putF_stable {b C : Nat} {e : Ev} : ∀ (W W' : World) (j : Nat) (v : Value), Lib.OthersKept 5 (some b) W W' → putF b C e j v W → putF b C e j v W' := by
  intro W W' j v hk h
  unfold putF at h ⊢
  split at h <;> first | exact h | (obtain ⟨g, h1, h2, h3⟩ := h; exact ⟨g, h1, h2, hk g _ h3 (by simpa using h2) (by intro c fz e; injection e with _ e2; exact absurd e2 (by decide))⟩)

theorem u64_of {n : Int} (h0 : 0 ≤ n) (h1 : n < 18446744073709551616) : IntKind.u64.wrap n = ((n.toNat : Nat) : Int) := by
  show n % (2 : Int) ^ 64 = _
  omega
set_option maxHeartbeats 8000000 in
theorem put_any (B b : Nat) (l : List UInt8) (e : Ev) (he : OkE e) (w : World) (h : WrAt w B b l) (hlen : l.length + (putE e).length ≤ 1099511627776) (hBw : B ≤ w.heap.size) :
    Calls Tryz.prog 22 #[.pointer (some ⟨b, 0, none⟩), e.val] w fun r w' => r = .returned (.tuple #[]) ∧ WrAt w' B b (l ++ putE e) ∧ Wrote B b w w' := by
  obtain ⟨q1, q2, q3, q4, q5, q6, q7, q8⟩ := he
  have hlb : b < w.heap.size := by rcases h with h | h <;> exact h.lt
  have hbB : B ≤ b := by rcases h with h | h <;> exact h.1
  have hCb : w.heap.size ≠ b := by omega
  rw [putE_eq, List.length_append] at hlen
  have hns : ∀ n ∈ e.nums, n < 18446744073709551616 := by
    intro n hn
    simp only [Ev.nums, List.mem_cons, List.not_mem_nil, or_false] at hn
    omega
  have u_kind := u64_of (n := e.kind) (by omega) (by omega)
  have u_account := u64_of (n := e.account) (by omega) (by omega)
  have u_purpose := u64_of (n := e.purpose) (by omega) (by omega)
  have u_at_ := u64_of (n := e.at_) (by omega) (by omega)
  have u_n := u64_of (n := e.n) (by omega) (by omega)
  have HW := Lib.hid h
  obtain ⟨C, hC⟩ : ∃ C, C = w.heap.size := ⟨_, rfl⟩
  rw [← hC] at hCb
  unfold Ev.val
  clear h
  go_enter Tryz.func22, Tryz.ntmps22
  go_wp2_with fail
  rw [← hC]
  refine Facts.Up.wp_region_facts (by kernel_rfl) (putF b C e) (Lib.OthersKept 5 (some b)) (fun d W => WReg B b C e.cells.toArray 35 w (ph2 (d 17) (d 25) l (l ++ encs e.nums) (l ++ encs e.nums ++ txts e.txts)) W) (by kernel_rfl) (by kernel_rfl) (by kernel_rfl) putF_stable ?_ ?_ ?_
  · exact ⟨⟨((Below.refl B w).alloc hBw _).drew, ((Lib.OthersKept.refl _ _ w).alloc _).drew⟩, by subst hC; exact heap_alloc_new _ _, fun l2 hl => by cases hl; exact (Lib.IsBuilderF.alloc HW.out _), by show B ≤ (w.alloc _).heap.size; simp; omega, by show b < (w.alloc _).heap.size; simp; omega⟩
  · refine ⟨?_, ?_, ?_, ?_, ?_, ?_, ?_, ?_, ?_, ?_, ?_, ?_, ?_, ?_, ?_, ?_, ?_, ?_, ?_, ?_, ?_, ?_, ?_, ?_, ?_, ?_, trivial⟩
    · rintro d vs x W hR hj hc hw hD hB
      have s0 := hB.slot 0 (v := .pointer (some ⟨b, 0, none⟩)) (by kernel_rfl) rfl
      refine Facts.step_value (v := .pointer (some ⟨b, 0, none⟩)) ?_ ?_ ?_ ?_ ?_ ?_
      · rfl
      · exact Facts.wanted_none rfl
      · simp [execOp, s0, go_sem]
      · exact (hR.same2 (by decide) (by decide))
      · exact Lib.OthersKept.refl _ _ _
      · rfl
    · rintro d vs x W hR hj hc hw hD hB
      have s3 := hB.slot 3 (v := .pointer (some ⟨C, 0, none⟩)) (by kernel_rfl) rfl
      refine Facts.step_value (v := .pointer (some ⟨C, 0, none⟩)) ?_ ?_ ?_ ?_ ?_ ?_
      · rfl
      · exact Facts.wanted_none rfl
      · simp [execOp, s3, go_sem]
      · exact (hR.same2 (by decide) (by decide))
      · exact Lib.OthersKept.refl _ _ _
      · rfl
    · rintro d vs x W hR hj hc hw hD hB
      obtain ⟨f1, s5⟩ := hD.slot 1 5 (by kernel_rfl) (by kernel_rfl)
      rw [(f1 : vs 1 = .pointer (some ⟨C, 0, none⟩))] at s5
      have c := hR.cell (i := 0) (v := .int .i64 e.kind) rfl
      refine Facts.step_value (v := .int .i64 e.kind) ?_ ?_ ?_ ?_ ?_ ?_
      · rfl
      · exact Facts.wanted_none rfl
      · simp [execOp, s5, go_sem, c]
      · exact (hR.same2 (by decide) (by decide))
      · exact Lib.OthersKept.refl _ _ _
      · rfl
    · rintro d vs x W hR hj hc hw hD hB
      obtain ⟨f2, s6⟩ := hD.slot 2 6 (by kernel_rfl) (by kernel_rfl)
      rw [(f2 : vs 2 = .int .i64 e.kind)] at s6
      refine Facts.step_value (v := .int .u64 ((e.kind.toNat : Nat) : Int)) ?_ ?_ ?_ ?_ ?_ ?_
      · rfl
      · exact Facts.wanted_none rfl
      · simp [execOp, s6, go_sem, u_kind]
      · exact (hR.same2 (by decide) (by decide))
      · exact Lib.OthersKept.refl _ _ _
      · rfl
    · rintro d vs x W hR hj hc hw hD hB
      have s3 := hB.slot 3 (v := .pointer (some ⟨C, 0, none⟩)) (by kernel_rfl) rfl
      refine Facts.step_value (v := .pointer (some ⟨C, 1, none⟩)) ?_ ?_ ?_ ?_ ?_ ?_
      · rfl
      · exact Facts.wanted_none rfl
      · simp [execOp, s3, go_sem]
      · exact (hR.same2 (by decide) (by decide))
      · exact Lib.OthersKept.refl _ _ _
      · rfl
    · rintro d vs x W hR hj hc hw hD hB
      obtain ⟨f4, s8⟩ := hD.slot 4 8 (by kernel_rfl) (by kernel_rfl)
      rw [(f4 : vs 4 = .pointer (some ⟨C, 1, none⟩))] at s8
      have c := hR.cell (i := 1) (v := .int .i64 e.account) rfl
      refine Facts.step_value (v := .int .i64 e.account) ?_ ?_ ?_ ?_ ?_ ?_
      · rfl
      · exact Facts.wanted_none rfl
      · simp [execOp, s8, go_sem, c]
      · exact (hR.same2 (by decide) (by decide))
      · exact Lib.OthersKept.refl _ _ _
      · rfl
    · rintro d vs x W hR hj hc hw hD hB
      obtain ⟨f5, s9⟩ := hD.slot 5 9 (by kernel_rfl) (by kernel_rfl)
      rw [(f5 : vs 5 = .int .i64 e.account)] at s9
      refine Facts.step_value (v := .int .u64 ((e.account.toNat : Nat) : Int)) ?_ ?_ ?_ ?_ ?_ ?_
      · rfl
      · exact Facts.wanted_none rfl
      · simp [execOp, s9, go_sem, u_account]
      · exact (hR.same2 (by decide) (by decide))
      · exact Lib.OthersKept.refl _ _ _
      · rfl
    · rintro d vs x W hR hj hc hw hD hB
      have s3 := hB.slot 3 (v := .pointer (some ⟨C, 0, none⟩)) (by kernel_rfl) rfl
      refine Facts.step_value (v := .pointer (some ⟨C, 2, none⟩)) ?_ ?_ ?_ ?_ ?_ ?_
      · rfl
      · exact Facts.wanted_none rfl
      · simp [execOp, s3, go_sem]
      · exact (hR.same2 (by decide) (by decide))
      · exact Lib.OthersKept.refl _ _ _
      · rfl
    · rintro d vs x W hR hj hc hw hD hB
      obtain ⟨f7, s11⟩ := hD.slot 7 11 (by kernel_rfl) (by kernel_rfl)
      rw [(f7 : vs 7 = .pointer (some ⟨C, 2, none⟩))] at s11
      have c := hR.cell (i := 2) (v := .int .i64 e.purpose) rfl
      refine Facts.step_value (v := .int .i64 e.purpose) ?_ ?_ ?_ ?_ ?_ ?_
      · rfl
      · exact Facts.wanted_none rfl
      · simp [execOp, s11, go_sem, c]
      · exact (hR.same2 (by decide) (by decide))
      · exact Lib.OthersKept.refl _ _ _
      · rfl
    · rintro d vs x W hR hj hc hw hD hB
      obtain ⟨f8, s12⟩ := hD.slot 8 12 (by kernel_rfl) (by kernel_rfl)
      rw [(f8 : vs 8 = .int .i64 e.purpose)] at s12
      refine Facts.step_value (v := .int .u64 ((e.purpose.toNat : Nat) : Int)) ?_ ?_ ?_ ?_ ?_ ?_
      · rfl
      · exact Facts.wanted_none rfl
      · simp [execOp, s12, go_sem, u_purpose]
      · exact (hR.same2 (by decide) (by decide))
      · exact Lib.OthersKept.refl _ _ _
      · rfl
    · rintro d vs x W hR hj hc hw hD hB
      have s3 := hB.slot 3 (v := .pointer (some ⟨C, 0, none⟩)) (by kernel_rfl) rfl
      refine Facts.step_value (v := .pointer (some ⟨C, 3, none⟩)) ?_ ?_ ?_ ?_ ?_ ?_
      · rfl
      · exact Facts.wanted_none rfl
      · simp [execOp, s3, go_sem]
      · exact (hR.same2 (by decide) (by decide))
      · exact Lib.OthersKept.refl _ _ _
      · rfl
    · rintro d vs x W hR hj hc hw hD hB
      obtain ⟨f10, s14⟩ := hD.slot 10 14 (by kernel_rfl) (by kernel_rfl)
      rw [(f10 : vs 10 = .pointer (some ⟨C, 3, none⟩))] at s14
      have c := hR.cell (i := 3) (v := .int .i64 e.at_) rfl
      refine Facts.step_value (v := .int .i64 e.at_) ?_ ?_ ?_ ?_ ?_ ?_
      · rfl
      · exact Facts.wanted_none rfl
      · simp [execOp, s14, go_sem, c]
      · exact (hR.same2 (by decide) (by decide))
      · exact Lib.OthersKept.refl _ _ _
      · rfl
    · rintro d vs x W hR hj hc hw hD hB
      obtain ⟨f11, s15⟩ := hD.slot 11 15 (by kernel_rfl) (by kernel_rfl)
      rw [(f11 : vs 11 = .int .i64 e.at_)] at s15
      refine Facts.step_value (v := .int .u64 ((e.at_.toNat : Nat) : Int)) ?_ ?_ ?_ ?_ ?_ ?_
      · rfl
      · exact Facts.wanted_none rfl
      · simp [execOp, s15, go_sem, u_at_]
      · exact (hR.same2 (by decide) (by decide))
      · exact Lib.OthersKept.refl _ _ _
      · rfl
    · rintro d vs x W hR hj hc hw hD hB
      have s3 := hB.slot 3 (v := .pointer (some ⟨C, 0, none⟩)) (by kernel_rfl) rfl
      refine Facts.step_value (v := .pointer (some ⟨C, 4, none⟩)) ?_ ?_ ?_ ?_ ?_ ?_
      · rfl
      · exact Facts.wanted_none rfl
      · simp [execOp, s3, go_sem]
      · exact (hR.same2 (by decide) (by decide))
      · exact Lib.OthersKept.refl _ _ _
      · rfl
    · rintro d vs x W hR hj hc hw hD hB
      obtain ⟨f13, s17⟩ := hD.slot 13 17 (by kernel_rfl) (by kernel_rfl)
      rw [(f13 : vs 13 = .pointer (some ⟨C, 4, none⟩))] at s17
      have c := hR.cell (i := 4) (v := .int .i64 e.n) rfl
      refine Facts.step_value (v := .int .i64 e.n) ?_ ?_ ?_ ?_ ?_ ?_
      · rfl
      · exact Facts.wanted_none rfl
      · simp [execOp, s17, go_sem, c]
      · exact (hR.same2 (by decide) (by decide))
      · exact Lib.OthersKept.refl _ _ _
      · rfl
    · rintro d vs x W hR hj hc hw hD hB
      obtain ⟨f14, s18⟩ := hD.slot 14 18 (by kernel_rfl) (by kernel_rfl)
      rw [(f14 : vs 14 = .int .i64 e.n)] at s18
      refine Facts.step_value (v := .int .u64 ((e.n.toNat : Nat) : Int)) ?_ ?_ ?_ ?_ ?_ ?_
      · rfl
      · exact Facts.wanted_none rfl
      · simp [execOp, s18, go_sem, u_n]
      · exact (hR.same2 (by decide) (by decide))
      · exact Lib.OthersKept.refl _ _ _
      · rfl
    · rintro d vs x W hR hj hc hw hD hB
      obtain ⟨f3, s7⟩ := hD.slot 3 7 (by kernel_rfl) (by kernel_rfl)
      rw [(f3 : vs 3 = .int .u64 ((e.kind.toNat : Nat) : Int))] at s7
      obtain ⟨f6, s10⟩ := hD.slot 6 10 (by kernel_rfl) (by kernel_rfl)
      rw [(f6 : vs 6 = .int .u64 ((e.account.toNat : Nat) : Int))] at s10
      obtain ⟨f9, s13⟩ := hD.slot 9 13 (by kernel_rfl) (by kernel_rfl)
      rw [(f9 : vs 9 = .int .u64 ((e.purpose.toNat : Nat) : Int))] at s13
      obtain ⟨f12, s16⟩ := hD.slot 12 16 (by kernel_rfl) (by kernel_rfl)
      rw [(f12 : vs 12 = .int .u64 ((e.at_.toNat : Nat) : Int))] at s16
      obtain ⟨f15, s19⟩ := hD.slot 15 19 (by kernel_rfl) (by kernel_rfl)
      rw [(f15 : vs 15 = .int .u64 ((e.n.toNat : Nat) : Int))] at s19
      refine Facts.step_world (v := .slice (some ⟨W.heap.size, 0, none⟩) 5 5) (w' := W.alloc (.cells (numCells e.nums) 46)) ?_ ?_ ?_ ?_ ?_ ?_
      · rfl
      · exact Facts.wanted_none rfl
      · simp [execOp, s7, s10, s13, s16, s19, go_sem, numCells, Ev.nums]
      · exact WReg.alloc (hR.same2 (by decide) (by decide)) _
      · exact (Lib.OthersKept.refl _ _ _).alloc _
      · exact ⟨W.heap.size, rfl, hR.size_ne, heap_alloc_new _ _⟩
    · rintro d vs x W hR hj hc hw hD hB
      obtain ⟨f0, s4⟩ := hD.slot 0 4 (by kernel_rfl) (by kernel_rfl)
      rw [(f0 : vs 0 = .pointer (some ⟨b, 0, none⟩))] at s4
      obtain ⟨⟨g, f16, hgb, hg⟩, s20⟩ := hD.slot 16 20 (by kernel_rfl) (by kernel_rfl)
      rw [f16] at s20
      have p1 : d 25 = false := hc.no (i := 25) hj (by kernel_rfl)
      have hA : WrAt W B b l := hR.at_ _ (by rw [hj, p1]; rfl)
      refine Facts.step_call (f := 17) (args := #[.pointer (some ⟨b, 0, none⟩), .slice (some ⟨g, 0, none⟩) 5 5]) ?_ ?_ ?_ ((WNum_any B b g 5 l e.nums 46 _ W hA hg hgb (by decide) hns (by show 5 ≤ 1000; omega) (by omega) hR.bw).mono ?_)
      · rfl
      · exact Facts.wanted_none rfl
      · simp [s4, s20, go_sem]
      · rintro r X ⟨rfl, hX, kX⟩
        exact ⟨_, rfl, hR.call kX hCb (by decide) (fun l hl => by rw [set_eq, set_ne (by decide), p1] at hl; cases hl; exact hX), kX.kept, rfl⟩
    · rintro d vs x W hR hj hc hw hD hB
      have s3 := hB.slot 3 (v := .pointer (some ⟨C, 0, none⟩)) (by kernel_rfl) rfl
      refine Facts.step_value (v := .pointer (some ⟨C, 5, none⟩)) ?_ ?_ ?_ ?_ ?_ ?_
      · rfl
      · exact Facts.wanted_none rfl
      · simp [execOp, s3, go_sem]
      · exact (hR.same2 (by decide) (by decide))
      · exact Lib.OthersKept.refl _ _ _
      · rfl
    · rintro d vs x W hR hj hc hw hD hB
      obtain ⟨f18, s22⟩ := hD.slot 18 22 (by kernel_rfl) (by kernel_rfl)
      rw [(f18 : vs 18 = .pointer (some ⟨C, 5, none⟩))] at s22
      have c := hR.cell (i := 5) (v := .string (bs e.a)) rfl
      refine Facts.step_value (v := .string (bs e.a)) ?_ ?_ ?_ ?_ ?_ ?_
      · rfl
      · exact Facts.wanted_none rfl
      · simp [execOp, s22, go_sem, c]
      · exact (hR.same2 (by decide) (by decide))
      · exact Lib.OthersKept.refl _ _ _
      · rfl
    · rintro d vs x W hR hj hc hw hD hB
      have s3 := hB.slot 3 (v := .pointer (some ⟨C, 0, none⟩)) (by kernel_rfl) rfl
      refine Facts.step_value (v := .pointer (some ⟨C, 6, none⟩)) ?_ ?_ ?_ ?_ ?_ ?_
      · rfl
      · exact Facts.wanted_none rfl
      · simp [execOp, s3, go_sem]
      · exact (hR.same2 (by decide) (by decide))
      · exact Lib.OthersKept.refl _ _ _
      · rfl
    · rintro d vs x W hR hj hc hw hD hB
      obtain ⟨f20, s24⟩ := hD.slot 20 24 (by kernel_rfl) (by kernel_rfl)
      rw [(f20 : vs 20 = .pointer (some ⟨C, 6, none⟩))] at s24
      have c := hR.cell (i := 6) (v := .string (bs e.b)) rfl
      refine Facts.step_value (v := .string (bs e.b)) ?_ ?_ ?_ ?_ ?_ ?_
      · rfl
      · exact Facts.wanted_none rfl
      · simp [execOp, s24, go_sem, c]
      · exact (hR.same2 (by decide) (by decide))
      · exact Lib.OthersKept.refl _ _ _
      · rfl
    · rintro d vs x W hR hj hc hw hD hB
      have s3 := hB.slot 3 (v := .pointer (some ⟨C, 0, none⟩)) (by kernel_rfl) rfl
      refine Facts.step_value (v := .pointer (some ⟨C, 7, none⟩)) ?_ ?_ ?_ ?_ ?_ ?_
      · rfl
      · exact Facts.wanted_none rfl
      · simp [execOp, s3, go_sem]
      · exact (hR.same2 (by decide) (by decide))
      · exact Lib.OthersKept.refl _ _ _
      · rfl
    · rintro d vs x W hR hj hc hw hD hB
      obtain ⟨f22, s26⟩ := hD.slot 22 26 (by kernel_rfl) (by kernel_rfl)
      rw [(f22 : vs 22 = .pointer (some ⟨C, 7, none⟩))] at s26
      have c := hR.cell (i := 7) (v := .string (bs e.c)) rfl
      refine Facts.step_value (v := .string (bs e.c)) ?_ ?_ ?_ ?_ ?_ ?_
      · rfl
      · exact Facts.wanted_none rfl
      · simp [execOp, s26, go_sem, c]
      · exact (hR.same2 (by decide) (by decide))
      · exact Lib.OthersKept.refl _ _ _
      · rfl
    · rintro d vs x W hR hj hc hw hD hB
      obtain ⟨f19, s23⟩ := hD.slot 19 23 (by kernel_rfl) (by kernel_rfl)
      rw [(f19 : vs 19 = .string (bs e.a))] at s23
      obtain ⟨f21, s25⟩ := hD.slot 21 25 (by kernel_rfl) (by kernel_rfl)
      rw [(f21 : vs 21 = .string (bs e.b))] at s25
      obtain ⟨f23, s27⟩ := hD.slot 23 27 (by kernel_rfl) (by kernel_rfl)
      rw [(f23 : vs 23 = .string (bs e.c))] at s27
      refine Facts.step_world (v := .slice (some ⟨W.heap.size, 0, none⟩) 3 3) (w' := W.alloc (.cells (txtCells e.txts) 9)) ?_ ?_ ?_ ?_ ?_ ?_
      · rfl
      · exact Facts.wanted_none rfl
      · simp [execOp, s23, s25, s27, go_sem, txtCells, Ev.txts]
      · exact WReg.alloc (hR.same2 (by decide) (by decide)) _
      · exact (Lib.OthersKept.refl _ _ _).alloc _
      · exact ⟨W.heap.size, rfl, hR.size_ne, heap_alloc_new _ _⟩
    · rintro d vs x W hR hj hc hw hD hB
      obtain ⟨f17, s21⟩ := hD.slot 17 21 (by kernel_rfl) (by kernel_rfl)
      rw [(f17 : vs 17 = .pointer (some ⟨b, 0, none⟩))] at s21
      obtain ⟨⟨g, f24, hgb, hg⟩, s28⟩ := hD.slot 24 28 (by kernel_rfl) (by kernel_rfl)
      rw [f24] at s28
      have p0 : d 17 = true := hw 17 (by kernel_rfl)
      have hA : WrAt W B b (l ++ encs e.nums) := hR.at_ _ (by rw [p0, hj]; rfl)
      refine Facts.step_call (f := 18) (args := #[.pointer (some ⟨b, 0, none⟩), .slice (some ⟨g, 0, none⟩) 3 3]) ?_ ?_ ?_ ((WText_any B b g 3 (l ++ encs e.nums) e.txts 9 _ W hA hg hgb (by decide) (by show 3 ≤ 1000; omega) (by rw [List.length_append]; omega) hR.bw).mono ?_)
      · rfl
      · exact Facts.wanted_none rfl
      · simp [s21, s28, go_sem]
      · rintro r X ⟨rfl, hX, kX⟩
        exact ⟨_, rfl, hR.call kX hCb (by decide) (fun l2 hl => by rw [set_ne (by decide), set_eq] at hl; cases hl; exact hX), kX.kept, trivial⟩
  · rintro d vs W hd hR hF
    have hA : WrAt W B b (l ++ putE e) := by
      have := hR.at_ (l ++ encs e.nums ++ txts e.txts) (by rw [hd 17 (by decide), hd 25 (by decide)]; rfl)
      rwa [putE_eq, ← List.append_assoc]
    have hK := hR.wrote
    clear hR hF hd
    go_wp2_with fail
    go_end0
    exact ⟨rfl, hA, hK⟩

def Rq.nums (e : Rq) : List Nat := [e.kind.toNat, e.purpose.toNat]
def Rq.txts (e : Rq) : List (List UInt8) := [e.source, e.mail, e.other, e.secret, e.password]
theorem bytesRaw_eq (e : Rq) : bytesRaw e = [] ++ encs e.nums ++ txts e.txts := by
  unfold bytesRaw encs txts Rq.nums Rq.txts
  simp [List.append_assoc]
theorem bytesRaw_ne (e : Rq) : bytesRaw e ≠ [] := by
  intro h
  have := congrArg List.length h
  have := enc_pos e.kind.toNat
  unfold bytesRaw at *
  simp only [List.length_append, List.length_nil] at *
  omega
/-- what each operation of the statement leaves -/
def bytF (b C : Nat) (e : Rq) : Nat → Value → World → Prop
  | 0, v, _ => v = .pointer (some ⟨b, 0, none⟩)
  | 1, v, _ => v = .pointer (some ⟨C, 0, none⟩)
  | 2, v, _ => v = .int .i64 e.kind
  | 3, v, _ => v = .int .u64 ((e.kind.toNat : Nat) : Int)
  | 4, v, _ => v = .pointer (some ⟨C, 1, none⟩)
  | 5, v, _ => v = .int .i64 e.purpose
  | 6, v, _ => v = .int .u64 ((e.purpose.toNat : Nat) : Int)
  | 7, v, W => ∃ g, v = .slice (some ⟨g, 0, none⟩) 2 2 ∧ g ≠ b ∧ W.heap[g]? = some (.cells (numCells e.nums) 46 (0, 0))
  | 8, v, _ => v = .pointer (some ⟨b, 0, none⟩)
  | 9, v, _ => v = .pointer (some ⟨C, 2, none⟩)
  | 10, v, _ => v = .string (bs e.source)
  | 11, v, _ => v = .pointer (some ⟨C, 3, none⟩)
  | 12, v, _ => v = .string (bs e.mail)
  | 13, v, _ => v = .pointer (some ⟨C, 4, none⟩)
  | 14, v, _ => v = .string (bs e.other)
  | 15, v, _ => v = .pointer (some ⟨C, 5, none⟩)
  | 16, v, _ => v = .string (bs e.secret)
  | 17, v, _ => v = .pointer (some ⟨C, 6, none⟩)
  | 18, v, _ => v = .string (bs e.password)
  | 19, v, W => ∃ g, v = .slice (some ⟨g, 0, none⟩) 5 5 ∧ g ≠ b ∧ W.heap[g]? = some (.cells (txtCells e.txts) 9 (0, 0))
  | 20, v, _ => v = .pointer (some ⟨b, 0, none⟩)
  | 21, v, _ => v = .string (bs (bytesRaw e))
  | 22, v, _ => v = .string (bs (bytesRaw e))
  | _, _, _ => True
theorem bytF_stable {b C : Nat} {e : Rq} : ∀ (W W' : World) (j : Nat) (v : Value), Lib.OthersKept 5 (some b) W W' → bytF b C e j v W → bytF b C e j v W' := by
  intro W W' j v hk h
  unfold bytF at h ⊢
  split at h <;> first | exact h | (obtain ⟨g, h1, h2, h3⟩ := h; exact ⟨g, h1, h2, hk g _ h3 (by simpa using h2) (by intro c fz e; injection e with _ e2; exact absurd e2 (by decide))⟩)

def Rq.cells (r : Rq) : Array Value := #[.int .i64 r.kind, .int .i64 r.purpose, .string (bs r.source), .string (bs r.mail), .string (bs r.other), .string (bs r.secret), .string (bs r.password)]
/-- a request that may be is short -/
structure OkR (r : Rq) : Prop where
  kind : 1 ≤ r.kind ∧ r.kind ≤ 16
  purpose : 0 ≤ r.purpose ∧ r.purpose ≤ 4
theorem okR_of {r : Rq} (h : checkR r = true) : OkR r := by
  unfold checkR at h
  simp only [Bool.and_eq_true, decide_eq_true_eq] at h
  obtain ⟨⟨⟨⟨⟨⟨⟨h1, _⟩, _⟩, _⟩, _⟩, h6⟩, _⟩, _⟩ := h
  refine ⟨h1, ?_⟩
  split at h6 <;> omega
set_option maxHeartbeats 8000000 in
theorem wireBytes_any (e : Rq) (he : checkR e = true) (hlen : (bytesRaw e).length ≤ 1099511627776) (w : World) :
    Calls Tryz.prog 6 #[e.val] w fun r w' => r = .returned (.string (bs (bytesRaw e))) ∧ Below w.heap.size w w' := by
  obtain ⟨q1, q2⟩ := okR_of he
  have hns : ∀ n ∈ e.nums, n < 18446744073709551616 := by
    intro n hn
    simp only [Rq.nums, List.mem_cons, List.not_mem_nil, or_false] at hn
    omega
  have u_kind := u64_of (n := e.kind) (by omega) (by omega)
  have u_purpose := u64_of (n := e.purpose) (by omega) (by omega)
  have hck := fun W => Check_any e W
  rw [he] at hck
  rw [bytesRaw_eq, List.nil_append, List.length_append] at hlen
  clear he
  obtain ⟨B, hB0⟩ : ∃ B, B = w.heap.size := ⟨_, rfl⟩
  rw [← hB0]
  unfold Rq.val at hck ⊢
  go_enter Tryz.func6, Tryz.ntmps6
  go_wp2_with fail
  go_at_call 16
  refine (hck _).mono ?_
  rintro r w1 ⟨rfl, hb1⟩
  clear hck
  obtain ⟨C, hC⟩ : ∃ C, C = w.heap.size := ⟨_, rfl⟩
  have hsz : C < w1.heap.size := by have := hb1.size; simp at this; omega
  have hrow : w1.heap[C]? = some (.cells e.cells 25 (0, 0)) := by
    rw [hb1.block C (by simp; omega), hC]
    exact heap_alloc_new _ _
  have hbw : Below B w w1 := ((Below.refl B w).alloc (by omega) _).trans (hb1.mono (by simp; omega))
  have hBw : B ≤ w1.heap.size := by omega
  clear hb1
  go_wp2_with fail
  rw [← hC]
  obtain ⟨b, hb⟩ : ∃ b, b = w1.heap.size := ⟨_, rfl⟩
  have hCb : C ≠ b := by omega
  rw [← hb]
  refine Facts.Up.wp_region_facts (by kernel_rfl) (bytF b C e) (Lib.OthersKept 5 (some b)) (fun d W => WReg B b C e.cells 25 w1 (ph3 (d 8) (d 20) (d 21) [] ([] ++ encs e.nums) ([] ++ encs e.nums ++ txts e.txts)) W) (by kernel_rfl) (by kernel_rfl) (by kernel_rfl) bytF_stable ?_ ?_ ?_
  · refine ⟨⟨((Below.refl B w1).alloc hBw _).drew, ((Lib.OthersKept.refl _ _ w1).alloc _).drew⟩, (Lib.alloc_old w1 _ C hsz).trans hrow, fun l2 hl => ?_, by show B ≤ (w1.alloc _).heap.size; simp; omega, by show b < (w1.alloc _).heap.size; simp; omega⟩
    cases hl
    subst hb
    exact .inl ⟨hBw, .slice none 0 0, heap_alloc_new _ _, World.ownsRowF_nil _ _ _ _, by simp [Value.ownBlock]⟩
  · refine ⟨?_, ?_, ?_, ?_, ?_, ?_, ?_, ?_, ?_, ?_, ?_, ?_, ?_, ?_, ?_, ?_, ?_, ?_, ?_, ?_, ?_, ?_, ?_, trivial⟩
    · rintro d vs x W hR hj hc hw hD hB
      have s3 := hB.slot 3 (v := .pointer (some ⟨b, 0, none⟩)) (by kernel_rfl) rfl
      refine Facts.step_value (v := .pointer (some ⟨b, 0, none⟩)) ?_ ?_ ?_ ?_ ?_ ?_
      · rfl
      · exact Facts.wanted_none rfl
      · simp [execOp, s3, go_sem]
      · exact (hR.same3 (by decide) (by decide) (by decide))
      · exact Lib.OthersKept.refl _ _ _
      · rfl
    · rintro d vs x W hR hj hc hw hD hB
      have s1 := hB.slot 1 (v := .pointer (some ⟨C, 0, none⟩)) (by kernel_rfl) rfl
      refine Facts.step_value (v := .pointer (some ⟨C, 0, none⟩)) ?_ ?_ ?_ ?_ ?_ ?_
      · rfl
      · exact Facts.wanted_none rfl
      · simp [execOp, s1, go_sem]
      · exact (hR.same3 (by decide) (by decide) (by decide))
      · exact Lib.OthersKept.refl _ _ _
      · rfl
    · rintro d vs x W hR hj hc hw hD hB
      obtain ⟨f1, s10⟩ := hD.slot 1 10 (by kernel_rfl) (by kernel_rfl)
      rw [(f1 : vs 1 = .pointer (some ⟨C, 0, none⟩))] at s10
      have c := hR.cell (i := 0) (v := .int .i64 e.kind) rfl
      refine Facts.step_value (v := .int .i64 e.kind) ?_ ?_ ?_ ?_ ?_ ?_
      · rfl
      · exact Facts.wanted_none rfl
      · simp [execOp, s10, go_sem, c]
      · exact (hR.same3 (by decide) (by decide) (by decide))
      · exact Lib.OthersKept.refl _ _ _
      · rfl
    · rintro d vs x W hR hj hc hw hD hB
      obtain ⟨f2, s11⟩ := hD.slot 2 11 (by kernel_rfl) (by kernel_rfl)
      rw [(f2 : vs 2 = .int .i64 e.kind)] at s11
      refine Facts.step_value (v := .int .u64 ((e.kind.toNat : Nat) : Int)) ?_ ?_ ?_ ?_ ?_ ?_
      · rfl
      · exact Facts.wanted_none rfl
      · simp [execOp, s11, go_sem, u_kind]
      · exact (hR.same3 (by decide) (by decide) (by decide))
      · exact Lib.OthersKept.refl _ _ _
      · rfl
    · rintro d vs x W hR hj hc hw hD hB
      have s1 := hB.slot 1 (v := .pointer (some ⟨C, 0, none⟩)) (by kernel_rfl) rfl
      refine Facts.step_value (v := .pointer (some ⟨C, 1, none⟩)) ?_ ?_ ?_ ?_ ?_ ?_
      · rfl
      · exact Facts.wanted_none rfl
      · simp [execOp, s1, go_sem]
      · exact (hR.same3 (by decide) (by decide) (by decide))
      · exact Lib.OthersKept.refl _ _ _
      · rfl
    · rintro d vs x W hR hj hc hw hD hB
      obtain ⟨f4, s13⟩ := hD.slot 4 13 (by kernel_rfl) (by kernel_rfl)
      rw [(f4 : vs 4 = .pointer (some ⟨C, 1, none⟩))] at s13
      have c := hR.cell (i := 1) (v := .int .i64 e.purpose) rfl
      refine Facts.step_value (v := .int .i64 e.purpose) ?_ ?_ ?_ ?_ ?_ ?_
      · rfl
      · exact Facts.wanted_none rfl
      · simp [execOp, s13, go_sem, c]
      · exact (hR.same3 (by decide) (by decide) (by decide))
      · exact Lib.OthersKept.refl _ _ _
      · rfl
    · rintro d vs x W hR hj hc hw hD hB
      obtain ⟨f5, s14⟩ := hD.slot 5 14 (by kernel_rfl) (by kernel_rfl)
      rw [(f5 : vs 5 = .int .i64 e.purpose)] at s14
      refine Facts.step_value (v := .int .u64 ((e.purpose.toNat : Nat) : Int)) ?_ ?_ ?_ ?_ ?_ ?_
      · rfl
      · exact Facts.wanted_none rfl
      · simp [execOp, s14, go_sem, u_purpose]
      · exact (hR.same3 (by decide) (by decide) (by decide))
      · exact Lib.OthersKept.refl _ _ _
      · rfl
    · rintro d vs x W hR hj hc hw hD hB
      obtain ⟨f3, s12⟩ := hD.slot 3 12 (by kernel_rfl) (by kernel_rfl)
      rw [(f3 : vs 3 = .int .u64 ((e.kind.toNat : Nat) : Int))] at s12
      obtain ⟨f6, s15⟩ := hD.slot 6 15 (by kernel_rfl) (by kernel_rfl)
      rw [(f6 : vs 6 = .int .u64 ((e.purpose.toNat : Nat) : Int))] at s15
      refine Facts.step_world (v := .slice (some ⟨W.heap.size, 0, none⟩) 2 2) (w' := W.alloc (.cells (numCells e.nums) 46)) ?_ ?_ ?_ ?_ ?_ ?_
      · rfl
      · exact Facts.wanted_none rfl
      · simp [execOp, s12, s15, go_sem, numCells, Rq.nums]
      · exact WReg.alloc (hR.same3 (by decide) (by decide) (by decide)) _
      · exact (Lib.OthersKept.refl _ _ _).alloc _
      · exact ⟨W.heap.size, rfl, hR.size_ne, heap_alloc_new _ _⟩
    · rintro d vs x W hR hj hc hw hD hB
      obtain ⟨f0, s9⟩ := hD.slot 0 9 (by kernel_rfl) (by kernel_rfl)
      rw [(f0 : vs 0 = .pointer (some ⟨b, 0, none⟩))] at s9
      obtain ⟨⟨g, f7, hgb, hg⟩, s16⟩ := hD.slot 7 16 (by kernel_rfl) (by kernel_rfl)
      rw [f7] at s16
      have p1 : d 20 = false := hc.no (i := 20) hj (by kernel_rfl)
      have p2 : d 21 = false := hc.no (i := 21) p1 (by kernel_rfl)
      have hA : WrAt W B b [] := hR.at_ _ (by rw [hj, p1, p2]; rfl)
      refine Facts.step_call (f := 17) (args := #[.pointer (some ⟨b, 0, none⟩), .slice (some ⟨g, 0, none⟩) 2 2]) ?_ ?_ ?_ ((WNum_any B b g 2 [] e.nums 46 _ W hA hg hgb (by decide) hns (by show 2 ≤ 1000; omega) (by simp only [List.length_nil]; omega) hR.bw).mono ?_)
      · rfl
      · exact Facts.wanted_none rfl
      · simp [s9, s16, go_sem]
      · rintro r X ⟨rfl, hX, kX⟩
        exact ⟨_, rfl, hR.call kX hCb (by decide) (fun l hl => by rw [set_eq, set_ne (by decide), set_ne (by decide), p1, p2] at hl; cases hl; exact hX), kX.kept, rfl⟩
    · rintro d vs x W hR hj hc hw hD hB
      have s1 := hB.slot 1 (v := .pointer (some ⟨C, 0, none⟩)) (by kernel_rfl) rfl
      refine Facts.step_value (v := .pointer (some ⟨C, 2, none⟩)) ?_ ?_ ?_ ?_ ?_ ?_
      · rfl
      · exact Facts.wanted_none rfl
      · simp [execOp, s1, go_sem]
      · exact (hR.same3 (by decide) (by decide) (by decide))
      · exact Lib.OthersKept.refl _ _ _
      · rfl
    · rintro d vs x W hR hj hc hw hD hB
      obtain ⟨f9, s18⟩ := hD.slot 9 18 (by kernel_rfl) (by kernel_rfl)
      rw [(f9 : vs 9 = .pointer (some ⟨C, 2, none⟩))] at s18
      have c := hR.cell (i := 2) (v := .string (bs e.source)) rfl
      refine Facts.step_value (v := .string (bs e.source)) ?_ ?_ ?_ ?_ ?_ ?_
      · rfl
      · exact Facts.wanted_none rfl
      · simp [execOp, s18, go_sem, c]
      · exact (hR.same3 (by decide) (by decide) (by decide))
      · exact Lib.OthersKept.refl _ _ _
      · rfl
    · rintro d vs x W hR hj hc hw hD hB
      have s1 := hB.slot 1 (v := .pointer (some ⟨C, 0, none⟩)) (by kernel_rfl) rfl
      refine Facts.step_value (v := .pointer (some ⟨C, 3, none⟩)) ?_ ?_ ?_ ?_ ?_ ?_
      · rfl
      · exact Facts.wanted_none rfl
      · simp [execOp, s1, go_sem]
      · exact (hR.same3 (by decide) (by decide) (by decide))
      · exact Lib.OthersKept.refl _ _ _
      · rfl
    · rintro d vs x W hR hj hc hw hD hB
      obtain ⟨f11, s20⟩ := hD.slot 11 20 (by kernel_rfl) (by kernel_rfl)
      rw [(f11 : vs 11 = .pointer (some ⟨C, 3, none⟩))] at s20
      have c := hR.cell (i := 3) (v := .string (bs e.mail)) rfl
      refine Facts.step_value (v := .string (bs e.mail)) ?_ ?_ ?_ ?_ ?_ ?_
      · rfl
      · exact Facts.wanted_none rfl
      · simp [execOp, s20, go_sem, c]
      · exact (hR.same3 (by decide) (by decide) (by decide))
      · exact Lib.OthersKept.refl _ _ _
      · rfl
    · rintro d vs x W hR hj hc hw hD hB
      have s1 := hB.slot 1 (v := .pointer (some ⟨C, 0, none⟩)) (by kernel_rfl) rfl
      refine Facts.step_value (v := .pointer (some ⟨C, 4, none⟩)) ?_ ?_ ?_ ?_ ?_ ?_
      · rfl
      · exact Facts.wanted_none rfl
      · simp [execOp, s1, go_sem]
      · exact (hR.same3 (by decide) (by decide) (by decide))
      · exact Lib.OthersKept.refl _ _ _
      · rfl
    · rintro d vs x W hR hj hc hw hD hB
      obtain ⟨f13, s22⟩ := hD.slot 13 22 (by kernel_rfl) (by kernel_rfl)
      rw [(f13 : vs 13 = .pointer (some ⟨C, 4, none⟩))] at s22
      have c := hR.cell (i := 4) (v := .string (bs e.other)) rfl
      refine Facts.step_value (v := .string (bs e.other)) ?_ ?_ ?_ ?_ ?_ ?_
      · rfl
      · exact Facts.wanted_none rfl
      · simp [execOp, s22, go_sem, c]
      · exact (hR.same3 (by decide) (by decide) (by decide))
      · exact Lib.OthersKept.refl _ _ _
      · rfl
    · rintro d vs x W hR hj hc hw hD hB
      have s1 := hB.slot 1 (v := .pointer (some ⟨C, 0, none⟩)) (by kernel_rfl) rfl
      refine Facts.step_value (v := .pointer (some ⟨C, 5, none⟩)) ?_ ?_ ?_ ?_ ?_ ?_
      · rfl
      · exact Facts.wanted_none rfl
      · simp [execOp, s1, go_sem]
      · exact (hR.same3 (by decide) (by decide) (by decide))
      · exact Lib.OthersKept.refl _ _ _
      · rfl
    · rintro d vs x W hR hj hc hw hD hB
      obtain ⟨f15, s24⟩ := hD.slot 15 24 (by kernel_rfl) (by kernel_rfl)
      rw [(f15 : vs 15 = .pointer (some ⟨C, 5, none⟩))] at s24
      have c := hR.cell (i := 5) (v := .string (bs e.secret)) rfl
      refine Facts.step_value (v := .string (bs e.secret)) ?_ ?_ ?_ ?_ ?_ ?_
      · rfl
      · exact Facts.wanted_none rfl
      · simp [execOp, s24, go_sem, c]
      · exact (hR.same3 (by decide) (by decide) (by decide))
      · exact Lib.OthersKept.refl _ _ _
      · rfl
    · rintro d vs x W hR hj hc hw hD hB
      have s1 := hB.slot 1 (v := .pointer (some ⟨C, 0, none⟩)) (by kernel_rfl) rfl
      refine Facts.step_value (v := .pointer (some ⟨C, 6, none⟩)) ?_ ?_ ?_ ?_ ?_ ?_
      · rfl
      · exact Facts.wanted_none rfl
      · simp [execOp, s1, go_sem]
      · exact (hR.same3 (by decide) (by decide) (by decide))
      · exact Lib.OthersKept.refl _ _ _
      · rfl
    · rintro d vs x W hR hj hc hw hD hB
      obtain ⟨f17, s26⟩ := hD.slot 17 26 (by kernel_rfl) (by kernel_rfl)
      rw [(f17 : vs 17 = .pointer (some ⟨C, 6, none⟩))] at s26
      have c := hR.cell (i := 6) (v := .string (bs e.password)) rfl
      refine Facts.step_value (v := .string (bs e.password)) ?_ ?_ ?_ ?_ ?_ ?_
      · rfl
      · exact Facts.wanted_none rfl
      · simp [execOp, s26, go_sem, c]
      · exact (hR.same3 (by decide) (by decide) (by decide))
      · exact Lib.OthersKept.refl _ _ _
      · rfl
    · rintro d vs x W hR hj hc hw hD hB
      obtain ⟨f10, s19⟩ := hD.slot 10 19 (by kernel_rfl) (by kernel_rfl)
      rw [(f10 : vs 10 = .string (bs e.source))] at s19
      obtain ⟨f12, s21⟩ := hD.slot 12 21 (by kernel_rfl) (by kernel_rfl)
      rw [(f12 : vs 12 = .string (bs e.mail))] at s21
      obtain ⟨f14, s23⟩ := hD.slot 14 23 (by kernel_rfl) (by kernel_rfl)
      rw [(f14 : vs 14 = .string (bs e.other))] at s23
      obtain ⟨f16, s25⟩ := hD.slot 16 25 (by kernel_rfl) (by kernel_rfl)
      rw [(f16 : vs 16 = .string (bs e.secret))] at s25
      obtain ⟨f18, s27⟩ := hD.slot 18 27 (by kernel_rfl) (by kernel_rfl)
      rw [(f18 : vs 18 = .string (bs e.password))] at s27
      refine Facts.step_world (v := .slice (some ⟨W.heap.size, 0, none⟩) 5 5) (w' := W.alloc (.cells (txtCells e.txts) 9)) ?_ ?_ ?_ ?_ ?_ ?_
      · rfl
      · exact Facts.wanted_none rfl
      · simp [execOp, s19, s21, s23, s25, s27, go_sem, txtCells, Rq.txts]
      · exact WReg.alloc (hR.same3 (by decide) (by decide) (by decide)) _
      · exact (Lib.OthersKept.refl _ _ _).alloc _
      · exact ⟨W.heap.size, rfl, hR.size_ne, heap_alloc_new _ _⟩
    · rintro d vs x W hR hj hc hw hD hB
      obtain ⟨f8, s17⟩ := hD.slot 8 17 (by kernel_rfl) (by kernel_rfl)
      rw [(f8 : vs 8 = .pointer (some ⟨b, 0, none⟩))] at s17
      obtain ⟨⟨g, f19, hgb, hg⟩, s28⟩ := hD.slot 19 28 (by kernel_rfl) (by kernel_rfl)
      rw [f19] at s28
      have p0 : d 8 = true := hw 8 (by kernel_rfl)
      have p2 : d 21 = false := hc.no (i := 21) hj (by kernel_rfl)
      have hA : WrAt W B b ([] ++ encs e.nums) := hR.at_ _ (by rw [p0, hj, p2]; rfl)
      refine Facts.step_call (f := 18) (args := #[.pointer (some ⟨b, 0, none⟩), .slice (some ⟨g, 0, none⟩) 5 5]) ?_ ?_ ?_ ((WText_any B b g 5 ([] ++ encs e.nums) e.txts 9 _ W hA hg hgb (by decide) (by show 5 ≤ 1000; omega) (by rw [List.nil_append]; omega) hR.bw).mono ?_)
      · rfl
      · exact Facts.wanted_none rfl
      · simp [s17, s28, go_sem]
      · rintro r X ⟨rfl, hX, kX⟩
        exact ⟨_, rfl, hR.call kX hCb (by decide) (fun l2 hl => by rw [set_ne (by decide), set_eq, set_ne (by decide), p2] at hl; cases hl; exact hX), kX.kept, rfl⟩
    · rintro d vs x W hR hj hc hw hD hB
      obtain ⟨f20, s29⟩ := hD.slot 20 29 (by kernel_rfl) (by kernel_rfl)
      rw [(f20 : vs 20 = .pointer (some ⟨b, 0, none⟩))] at s29
      have p1 : d 20 = true := hw 20 (by kernel_rfl)
      have p0 : d 8 = true := hc 20 8 p1 (by kernel_rfl)
      have hA : WrAt W B b ([] ++ encs e.nums ++ txts e.txts) := hR.at_ _ (by rw [p0, p1, hj]; rfl)
      rw [show [] ++ encs e.nums ++ txts e.txts = bytesRaw e from (bytesRaw_eq e).symm] at hA
      refine Facts.step_call (f := 19) (args := #[.pointer (some ⟨b, 0, none⟩)]) ?_ ?_ ?_ ((WString_any B b (bytesRaw e) W hA (bytesRaw_ne e)).mono ?_)
      · rfl
      · exact Facts.wanted_none rfl
      · simp [s29, go_sem]
      · rintro r X ⟨rfl, kX⟩
        exact ⟨_, rfl, hR.call kX hCb (by decide) (fun l2 hl => by rw [set_eq] at hl; cases hl), kX.kept, rfl⟩
    · rintro d vs x W hR hj hc hw hD hB
      obtain ⟨f21, s30⟩ := hD.slot 21 30 (by kernel_rfl) (by kernel_rfl)
      rw [(f21 : vs 21 = .string (bs (bytesRaw e)))] at s30
      refine Facts.step_value (v := .string (bs (bytesRaw e))) ?_ ?_ ?_ ?_ ?_ ?_
      · rfl
      · exact Facts.wanted_none rfl
      · simp [execOp, s30, go_sem]
      · exact (hR.same3 (by decide) (by decide) (by decide))
      · exact Lib.OthersKept.refl _ _ _
      · rfl
  · rintro d vs W hd hR hF
    have h22 : vs 22 = .string (bs (bytesRaw e)) := hF 22 (by decide)
    have hK := hbw.trans hR.wrote.below
    clear hR hF hd
    simp only [Facts.frameEnd, List.zipIdx, List.foldl, Act.put, h22, List.setIfInBounds_toArray, List.set_cons_succ, List.set_cons_zero, Nat.reduceAdd]
    go_wp2_with fail
    go_ret
    exact ⟨rfl, hK⟩
end Go.Proofs.YtjiaoppefinljaaGreatDoor.Pk

/- Contracts of events: a batch is written. -/
namespace Go.Proofs.YtjiaoppefinljaaGreatDoor.Pk
open Go.RowKit
set_option maxRecDepth 100000

theorem txt_le {s : List UInt8} (h : s.length ≤ 100) : (txt s).length ≤ 110 := by
  have := enc_len10 (n := s.length) (by omega)
  rw [txt_len]
  omega
theorem putE_len {e : Ev} (h : OkE e) : (putE e).length ≤ 400 := by
  obtain ⟨q1, q2, q3, q4, q5, q6, q7, q8⟩ := h
  have h1 := enc_len10 (n := e.kind.toNat) (by omega)
  have h2 := enc_len10 (n := e.account.toNat) (by omega)
  have h3 := enc_len10 (n := e.purpose.toNat) (by omega)
  have h4 := enc_len10 (n := e.at_.toNat) (by omega)
  have h5 := enc_len10 (n := e.n.toNat) (by omega)
  have h6 := txt_le q6
  have h7 := txt_le q7
  have h8 := txt_le q8
  unfold putE
  simp only [List.length_append]
  omega
theorem putsE_succ {l : List Ev} {k : Nat} (h : k < l.length) : putsE (l.take (k + 1)) = putsE (l.take k) ++ putE (l[k]'h) := by
  unfold putsE
  rw [List.take_succ_eq_append_getElem h]
  simp only [List.map_append, List.flatten_append, List.map_cons, List.map_nil, List.flatten_cons, List.flatten_nil, List.append_nil]
theorem putsE_len {l : List Ev} (h : ∀ e ∈ l, checkE e = true) : (putsE l).length ≤ l.length * 400 := by
  induction l with
  | nil => simp [putsE]
  | cons e l ih =>
    have h1 := putE_len ((checkE_iff e).1 (h e (by simp)))
    have h2 := ih (fun x hx => h x (List.mem_cons_of_mem _ hx))
    have h3 : putsE (e :: l) = putE e ++ putsE l := by simp [putsE]
    rw [h3, List.length_append, List.length_cons]
    omega
def batchL (l : List Ev) : List UInt8 := if l.length = 0 then [] else enc l.length ++ putsE l
def batchC (l : List Ev) : Int := if l.length = 0 then 1 else 0
theorem batchB_L {l : List Ev} (h : ∀ e ∈ l, checkE e = true) (h24 : l.length ≤ 24) (h0 : l.length ≠ 0) : batchB l = some (batchL l) := by
  unfold batchB batchL
  rw [if_pos ⟨by omega, h24, h⟩, if_neg h0]

set_option maxHeartbeats 2000000 in
theorem evBatch_nil (A : Option Addr) (c : Nat) (w : World) :
    Calls Tryz.prog 8 #[.slice A 0 c] w fun r w' => r = .returned (.tuple #[.string (bs []), .int .i64 1]) ∧ Below w.heap.size w w' := by
  have hin := within21_any 0 1 24 w
  rw [show inB 0 1 24 = false from by decide] at hin
  go_enter Tryz.func8, Tryz.ntmps8
  go_wp2_with fail
  go_at_call 21
  refine hin.mono ?_
  rintro r w1 ⟨rfl, hw1⟩
  subst hw1
  go_wp2_with fail
  go_ret2
  exact ⟨rfl, Below.refl _ _⟩

set_option maxHeartbeats 8000000 in
theorem evBatch_some (A : Option Addr) (c : Nat) (l : List Ev) (h24 : l.length ≤ 24) (h0 : l.length ≠ 0) (hck : ∀ e ∈ l, checkE e = true) (w : World) (hr : EvRow w A l) :
    Calls Tryz.prog 8 #[.slice A l.length c] w fun r w' => r = .returned (.tuple #[.string (bs (enc l.length ++ putsE l)), .int .i64 0]) ∧ Below w.heap.size w w' := by
  have HR := Lib.hid hr
  have HC := Lib.hid hck
  have HP := Lib.hid (putsE_len hck)
  have hin := within21_any (l.length : Int) 1 24 w
  rw [show inB (l.length : Int) 1 24 = true from by unfold inB; rw [decide_eq_true (by omega), decide_eq_true (by omega)]; rfl] at hin
  have z1 : IntKind.u64.wrap (l.length : Int) = (l.length : Int) := u64_wrap_small _ (by omega)
  have hel := enc_len10 (n := l.length) (by omega)
  obtain ⟨B, hB0⟩ : ∃ B, B = w.heap.size := ⟨_, rfl⟩
  clear hr hck
  go_enter Tryz.func8, Tryz.ntmps8
  go_wp2_with fail
  go_at_call 21
  refine hin.mono ?_
  rintro r w1 ⟨rfl, hw1⟩
  subst hw1
  go_wp2_with fail
  have hg : ((w1.alloc (.cells #[.pointer none, .slice none 0 0] 58)).alloc (.cells (numCells [l.length]) 46)).heap[w1.heap.size + 1]? = some (.cells (numCells [l.length]) 46 (0, 0)) := by
    rw [heap_alloc_get, if_pos (by simp)]
  have hA : WrAt ((w1.alloc (.cells #[.pointer none, .slice none 0 0] 58)).alloc (.cells (numCells [l.length]) 46)) w1.heap.size w1.heap.size [] :=
    Lib.IsBuilderF.alloc (.inl ⟨Nat.le_refl _, .slice none 0 0, heap_alloc_new _ _, World.ownsRowF_nil _ _ _ _, by simp [Value.ownBlock]⟩) _
  have hbb : Below w1.heap.size w1 ((w1.alloc (.cells #[.pointer none, .slice none 0 0] 58)).alloc (.cells (numCells [l.length]) 46)) := ((Below.refl _ w1).alloc (Nat.le_refl _) _).alloc (by simp) _
  have hnum := WNum_any w1.heap.size w1.heap.size (w1.heap.size + 1) 1 [] [l.length] 46 (0, 0) _ hA hg (by omega) (by decide) (by intro n hn; simp at hn; omega) (by simp) (by simp [encs]; omega) (by simp; omega)
  have he1 : [] ++ encs [l.length] = enc l.length := by simp [encs]
  rw [he1] at hnum
  clear hg hA
  go_at_call 17
  refine hnum.mono ?_
  rintro r w2 ⟨rfl, h2, k2⟩
  have hB2 := Lib.hid (hbb.trans k2.below)
  have hW2 : Hid (WrAt w2 w1.heap.size w1.heap.size (enc l.length ++ putsE (l.take 0))) := Lib.hid (by simpa [putsE] using h2)
  clear hnum h2 k2 hbb he1
  go_wp2_with fail
  go_loopw [6, 21] (fun _ v21 wr => ∃ k : Nat, k ≤ l.length ∧ v21 = .int .i64 (k : Int) ∧ Hid (WrAt wr w1.heap.size w1.heap.size (enc l.length ++ putsE (l.take k))) ∧ Hid (Below w1.heap.size w1 wr))
    (fun _ v21 _ => l.length - (intOf v21).toNat)
  case atStart => exact ⟨0, by omega, rfl, hW2, hB2⟩
  case round =>
    obtain ⟨k, hk, rfl, HW, HB⟩ := hrel
    by_cases hlt : k < l.length
    · obtain ⟨ad, rfl, hbl, hat⟩ := HR.out k hlt
      have hat2 := hat.below HB.out (by rw [blk_add]; exact hbl)
      obtain ⟨c0, c1, c2, c3, c4, c5, c6, c7⟩ := hat2
      have hkz : (k : Int) < (l.length : Int) := by omega
      have hk0 : (0 : Int) ≤ (k : Int) := by omega
      have hsucc := Lib.hid (putsE_succ hlt)
      have hce := HC.out _ (List.getElem_mem hlt)
      have hpl := Nat.le_trans (putsE_len (l := l.take k) (fun e he => HC.out e (List.mem_of_mem_take he))) (Nat.mul_le_mul_right 400 (List.length_take_le k l))
      clear hat
      generalize l[k]'hlt = e at *
      have hok := (checkE_iff e).1 hce
      have hle := putE_len hok
      have hck := fun W => evCheck_any e (by have := hok.a; unfold maxLen; omega) (by have := hok.b; unfold maxLen; omega) (by have := hok.c; unfold maxLen; omega) W
      have hput := fun W => put_any w1.heap.size w1.heap.size (enc l.length ++ putsE (l.take k)) e hok W
      rw [hce] at hck
      unfold Ev.val at hck hput
      have HOK := Lib.hid hok
      clear hce hok
      go_wp2_with fail
      go_at_call 9
      refine (hck _).mono ?_
      rintro r w3 ⟨rfl, hb3⟩
      have hrow : w3.heap[wr.heap.size]? = some (.cells #[.int .i64 e.kind, .int .i64 e.account, .int .i64 e.purpose, .int .i64 e.at_, .int .i64 e.n, .string (bs e.a), .string (bs e.b), .string (bs e.c)] 35 (0, 0)) := by
        rw [hb3.block wr.heap.size (by simp)]
        exact heap_alloc_new _ _
      have hW3 : WrAt w3 w1.heap.size w1.heap.size (enc l.length ++ putsE (l.take k)) := WrAt.below (Lib.IsBuilderF.alloc HW.out _) hb3
      have hB3 : Hid (Below w1.heap.size w1 w3) := Lib.hid ((HB.out.alloc HB.out.size _).trans (hb3.mono (by have := HB.out.size; simp; omega)))
      have hcall := hput w3 hW3 (by rw [List.length_append]; omega) hB3.out.size
      have q0 := row_cell hrow 0 rfl
      have q1 := row_cell hrow 1 rfl
      have q2 := row_cell hrow 2 rfl
      have q3 := row_cell hrow 3 rfl
      have q4 := row_cell hrow 4 rfl
      have q5 := row_cell hrow 5 rfl
      have q6 := row_cell hrow 6 rfl
      have q7 := row_cell hrow 7 rfl
      clear hck hput hrow hb3 hW3 c0 c1 c2 c3 c4 c5 c6 c7
      go_wp2_with fail
      go_at_call 22
      refine hcall.mono ?_
      rintro r w4 ⟨rfl, h4, k4⟩
      have hW4 : Hid (WrAt w4 w1.heap.size w1.heap.size (enc l.length ++ putsE (l.take (k + 1)))) := Lib.hid (by rw [hsucc.out, ← List.append_assoc]; exact h4)
      have hB4 := Lib.hid (hB3.out.trans k4.below)
      clear h4 k4 hcall q0 q1 q2 q3 q4 q5 q6 q7
      go_wp2_with fail
      go_roundw
      case rel => exact ⟨k + 1, by omega, by go_num, hW4, hB4⟩
      case measure => simp [intOf]; omega
    · obtain rfl : k = l.length := by omega
      have HW2 : Hid (WrAt wr w1.heap.size w1.heap.size (enc l.length ++ putsE l)) := Lib.hid (by have := HW.out; rwa [List.take_length] at this)
      have hne : enc l.length ++ putsE l ≠ [] := by
        intro h
        have := congrArg List.length h
        have := enc_pos l.length
        simp only [List.length_append, List.length_nil] at *
        omega
      have hcall := WString_any w1.heap.size w1.heap.size (enc l.length ++ putsE l) wr HW2.out hne
      have hll : ¬ (l.length : Int) < (l.length : Int) := by omega
      clear hne
      go_wp2_with fail
      go_at_call 19
      refine hcall.mono ?_
      rintro r w3 ⟨rfl, k3⟩
      go_wp2_with fail
      go_ret2
      exact ⟨rfl, HB.out.trans k3.below⟩
theorem evBatch_any (A : Option Addr) (c : Nat) (l : List Ev) (h24 : l.length ≤ 24) (hck : ∀ e ∈ l, checkE e = true) (w : World) (hr : EvRow w A l) :
    Calls Tryz.prog 8 #[.slice A l.length c] w fun r w' => r = .returned (.tuple #[.string (bs (batchL l)), .int .i64 (batchC l)]) ∧ Below w.heap.size w w' := by
  unfold batchL batchC
  by_cases h0 : l.length = 0
  · rw [if_pos h0, if_pos h0, h0]
    exact evBatch_nil A c w
  · rw [if_neg h0, if_neg h0]
    exact evBatch_some A c l h24 h0 hck w hr
end Go.Proofs.YtjiaoppefinljaaGreatDoor.Pk
