/- Contracts of events: the check. -/
import Derived.Test.YtjiaoppefinljaaGreatDoorJc
set_option linter.unusedVariables false
set_option linter.unusedSimpArgs false
set_option linter.unusedSectionVars false
namespace Go.Proofs.YtjiaoppefinljaaGreatDoor.Pk
open Go.RowKit
set_option maxRecDepth 100000

/-- an event as the program holds it -/
def Ev.cells (e : Ev) : List Value := [.int .i64 e.kind, .int .i64 e.account, .int .i64 e.purpose, .int .i64 e.at_, .int .i64 e.n, .string (bs e.a), .string (bs e.b), .string (bs e.c)]
def Ev.val (e : Ev) : Value := .agg #[.int .i64 e.kind, .int .i64 e.account, .int .i64 e.purpose, .int .i64 e.at_, .int .i64 e.n, .string (bs e.a), .string (bs e.b), .string (bs e.c)]
def inB (n l m : Int) : Bool := decide (l ≤ n) && decide (n ≤ m)

set_option maxHeartbeats 1000000 in
theorem within21_any (n l m : Int) (w : World) : Calls Tryz.prog 21 #[.int .i64 n, .int .i64 l, .int .i64 m] w fun e w' => e = .returned (.bool (inB n l m)) ∧ w' = w := by
  unfold inB
  by_cases h : l ≤ n
  · have z : decide (l ≤ n) = true := decide_eq_true h
    rw [z, Bool.true_and]
    by_cases h2 : n ≤ m
    · have z2 : decide (n ≤ m) = true := decide_eq_true h2
      rw [z2]
      go_enter Tryz.func21, Tryz.ntmps21
      go_wp2_with fail
      go_ret
      exact ⟨rfl, rfl⟩
    · have z2 : decide (n ≤ m) = false := decide_eq_false h2
      rw [z2]
      go_enter Tryz.func21, Tryz.ntmps21
      go_wp2_with fail
      go_ret
      exact ⟨rfl, rfl⟩
  · have z : decide (l ≤ n) = false := decide_eq_false h
    rw [z, Bool.false_and]
    go_enter Tryz.func21, Tryz.ntmps21
    go_wp2_with fail
    go_ret
    exact ⟨rfl, rfl⟩
set_option maxHeartbeats 1000000 in
theorem within23_any (n l m : Int) (w : World) : Calls Tryz.prog 23 #[.int .i64 n, .int .i64 l, .int .i64 m] w fun e w' => e = .returned (.bool (inB n l m)) ∧ w' = w := by
  unfold inB
  by_cases h : l ≤ n
  · have z : decide (l ≤ n) = true := decide_eq_true h
    rw [z, Bool.true_and]
    by_cases h2 : n ≤ m
    · have z2 : decide (n ≤ m) = true := decide_eq_true h2
      rw [z2]
      go_enter Tryz.func23, Tryz.ntmps23
      go_wp2_with fail
      go_ret
      exact ⟨rfl, rfl⟩
    · have z2 : decide (n ≤ m) = false := decide_eq_false h2
      rw [z2]
      go_enter Tryz.func23, Tryz.ntmps23
      go_wp2_with fail
      go_ret
      exact ⟨rfl, rfl⟩
  · have z : decide (l ≤ n) = false := decide_eq_false h
    rw [z, Bool.false_and]
    go_enter Tryz.func23, Tryz.ntmps23
    go_wp2_with fail
    go_ret
    exact ⟨rfl, rfl⟩

/-- the numbers of an event may be -/
def numsE (e : Ev) : Bool := inB e.kind 1 21 && (inB e.account 0 99 && (inB e.purpose 0 9 && (inB e.at_ 0 1099511627776 && inB e.n 0 1099511627776)))
theorem decide_and' (a b : Prop) [Decidable a] [Decidable b] : decide (a ∧ b) = (decide a && decide b) := by
  by_cases ha : a <;> by_cases hb : b <;> simp [ha, hb]
theorem checkE_nums (e : Ev) : checkE e = (numsE e && decide (e.a.length ≤ 100) && decide (e.b.length ≤ 100) && decide (e.c.length ≤ 100)) := by
  unfold checkE numsE inB
  simp only [decide_and', Bool.and_assoc]
theorem checkE_ok {e : Ev} (h1 : e.a.length ≤ 100) (h2 : e.b.length ≤ 100) (h3 : e.c.length ≤ 100) : checkE e = numsE e := by
  rw [checkE_nums, decide_eq_true h1, decide_eq_true h2, decide_eq_true h3]; simp
theorem checkE_no {e : Ev} (h : ¬ (e.a.length ≤ 100 ∧ e.b.length ≤ 100 ∧ e.c.length ≤ 100)) : checkE e = false := by
  cases hc : checkE e with
  | false => rfl
  | true =>
    have := (checkE_iff e).1 hc
    exact absurd ⟨this.a, this.b, this.c⟩ h
/-- a text of an event, by its number -/
def Ev.txt (e : Ev) (k : Nat) : List UInt8 := if k = 0 then e.a else if k = 1 then e.b else e.c
end Go.Proofs.YtjiaoppefinljaaGreatDoor.Pk

/- Contracts of events: the check. -/
namespace Go.Proofs.YtjiaoppefinljaaGreatDoor.Pk
open Go.RowKit
set_option maxRecDepth 100000
theorem idx66_0 (a b c : Value) (W : World) : (Instr.index 66 (.agg #[a, b, c]) (.int .i64 0)).run Tryz.prog W = .ok a W := by kernel_rfl
theorem idx66_1 (a b c : Value) (W : World) : (Instr.index 66 (.agg #[a, b, c]) (.int .i64 1)).run Tryz.prog W = .ok b W := by kernel_rfl
theorem idx66_2 (a b c : Value) (W : World) : (Instr.index 66 (.agg #[a, b, c]) (.int .i64 2)).run Tryz.prog W = .ok c W := by kernel_rfl
set_option maxHeartbeats 8000000 in
theorem evCheck0 (e : Ev) (ha : e.a.length ≤ maxLen) (hb : e.b.length ≤ maxLen) (hc : e.c.length ≤ maxLen) (c0 : inB e.kind 1 21 = false) (w : World) :
    Calls Tryz.prog 9 #[e.val] w fun r w' => r = .returned (.bool (checkE e)) ∧ Below w.heap.size w w' := by
  have HN : Hid (numsE e = false) := Lib.hid (by unfold numsE; rw [c0]; rfl)
  unfold maxLen at ha hb hc
  have HT : Hid (∀ k, e.txt k = if k = 0 then e.a else if k = 1 then e.b else e.c) := Lib.hid fun _ => rfl
  have HOK := Lib.hid (@checkE_ok e)
  have HNO := Lib.hid (@checkE_no e)
  have x0 := idx66_0
  have x1 := idx66_1
  have x2 := idx66_2
  have sa : (bs e.a).size = e.a.length := rfl
  have sb : (bs e.b).size = e.b.length := rfl
  have sc : (bs e.c).size = e.c.length := rfl
  unfold Ev.val
  go_enter Tryz.func9, Tryz.ntmps9
  go_wp2_with fail
  go_step3
  go_wp2_with fail
  go_at_call 21
  refine (within21_any e.kind 1 21 _).mono ?_
  rintro r w0 ⟨rfl, hw0⟩
  subst hw0
  rw [c0]
  go_wp2_with fail
  try go_step3
  try go_wp2_with fail
  go_loopw [3, 5, 36] (fun v3 _ v36 wr => ∃ k : Nat, k ≤ 3 ∧ v36 = .int .i64 (k : Int) ∧ v3 = .bool false ∧ Hid (∀ j, j < k → (e.txt j).length ≤ 100) ∧ Below w.heap.size w wr)
    (fun _ _ v36 _ => 3 - (intOf v36).toNat)
  case atStart => exact ⟨0, by omega, rfl, rfl, Lib.hid (fun j hj => absurd hj (by omega)), (Below.refl _ w).alloc (Nat.le_refl _) _⟩
  case round =>
    obtain ⟨k, hk, rfl, rfl, HL, hB⟩ := hrel
    obtain rfl | rfl | rfl | rfl : k = 0 ∨ k = 1 ∨ k = 2 ∨ k = 3 := by omega
    · by_cases hl : e.a.length ≤ 100
      · have z : ¬ (100 : Int) < (e.a.length : Int) := by omega
        have HL2 : Hid (∀ j, j < 1 → (e.txt j).length ≤ 100) := Lib.hid (fun j hj => by
          by_cases e1 : j = 0
          · subst e1; exact hl
          · exact HL.out j (by omega))
        clear hl
        go_wp2_with fail
        go_roundw
        case rel => exact ⟨1, by omega, by go_num, rfl, HL2, hB⟩
        case measure => simp [intOf]
      · have z : (100 : Int) < (e.a.length : Int) := by omega
        have HF : Hid (checkE e = false) := Lib.hid (HNO.out (fun hh => by omega))
        clear hl
        go_wp2_with fail
        try simp only [Exit.noGoto]
        go_ret
        exact ⟨by rw [HF.out]; rfl, hB⟩
    · by_cases hl : e.b.length ≤ 100
      · have z : ¬ (100 : Int) < (e.b.length : Int) := by omega
        have HL2 : Hid (∀ j, j < 2 → (e.txt j).length ≤ 100) := Lib.hid (fun j hj => by
          by_cases e1 : j = 1
          · subst e1; exact hl
          · exact HL.out j (by omega))
        clear hl
        go_wp2_with fail
        go_roundw
        case rel => exact ⟨2, by omega, by go_num, rfl, HL2, hB⟩
        case measure => simp [intOf]
      · have z : (100 : Int) < (e.b.length : Int) := by omega
        have HF : Hid (checkE e = false) := Lib.hid (HNO.out (fun hh => by omega))
        clear hl
        go_wp2_with fail
        try simp only [Exit.noGoto]
        go_ret
        exact ⟨by rw [HF.out]; rfl, hB⟩
    · by_cases hl : e.c.length ≤ 100
      · have z : ¬ (100 : Int) < (e.c.length : Int) := by omega
        have HL2 : Hid (∀ j, j < 3 → (e.txt j).length ≤ 100) := Lib.hid (fun j hj => by
          by_cases e1 : j = 2
          · subst e1; exact hl
          · exact HL.out j (by omega))
        clear hl
        go_wp2_with fail
        go_roundw
        case rel => exact ⟨3, by omega, by go_num, rfl, HL2, hB⟩
        case measure => simp [intOf]
      · have z : (100 : Int) < (e.c.length : Int) := by omega
        have HF : Hid (checkE e = false) := Lib.hid (HNO.out (fun hh => by omega))
        clear hl
        go_wp2_with fail
        try simp only [Exit.noGoto]
        go_ret
        exact ⟨by rw [HF.out]; rfl, hB⟩
    · have HF : Hid (checkE e = false) := Lib.hid ((HOK.out (HL.out 0 (by omega)) (HL.out 1 (by omega)) (HL.out 2 (by omega))).trans HN.out)
      go_wp2_with fail
      try simp only [Exit.noGoto]
      go_ret
      exact ⟨by rw [HF.out]; rfl, hB⟩
set_option maxHeartbeats 8000000 in
theorem evCheck1 (e : Ev) (ha : e.a.length ≤ maxLen) (hb : e.b.length ≤ maxLen) (hc : e.c.length ≤ maxLen) (c0 : inB e.kind 1 21 = true) (c1 : inB e.account 0 99 = false) (w : World) :
    Calls Tryz.prog 9 #[e.val] w fun r w' => r = .returned (.bool (checkE e)) ∧ Below w.heap.size w w' := by
  have HN : Hid (numsE e = false) := Lib.hid (by unfold numsE; rw [c0, c1]; rfl)
  unfold maxLen at ha hb hc
  have HT : Hid (∀ k, e.txt k = if k = 0 then e.a else if k = 1 then e.b else e.c) := Lib.hid fun _ => rfl
  have HOK := Lib.hid (@checkE_ok e)
  have HNO := Lib.hid (@checkE_no e)
  have x0 := idx66_0
  have x1 := idx66_1
  have x2 := idx66_2
  have sa : (bs e.a).size = e.a.length := rfl
  have sb : (bs e.b).size = e.b.length := rfl
  have sc : (bs e.c).size = e.c.length := rfl
  unfold Ev.val
  go_enter Tryz.func9, Tryz.ntmps9
  go_wp2_with fail
  go_step3
  go_wp2_with fail
  go_at_call 21
  refine (within21_any e.kind 1 21 _).mono ?_
  rintro r w0 ⟨rfl, hw0⟩
  subst hw0
  rw [c0]
  go_wp2_with fail
  go_at_call 21
  refine (within21_any e.account 0 99 _).mono ?_
  rintro r w1 ⟨rfl, hw1⟩
  subst hw1
  rw [c1]
  go_wp2_with fail
  try go_step3
  try go_wp2_with fail
  go_loopw [3, 5, 36] (fun v3 _ v36 wr => ∃ k : Nat, k ≤ 3 ∧ v36 = .int .i64 (k : Int) ∧ v3 = .bool false ∧ Hid (∀ j, j < k → (e.txt j).length ≤ 100) ∧ Below w.heap.size w wr)
    (fun _ _ v36 _ => 3 - (intOf v36).toNat)
  case atStart => exact ⟨0, by omega, rfl, rfl, Lib.hid (fun j hj => absurd hj (by omega)), (Below.refl _ w).alloc (Nat.le_refl _) _⟩
  case round =>
    obtain ⟨k, hk, rfl, rfl, HL, hB⟩ := hrel
    obtain rfl | rfl | rfl | rfl : k = 0 ∨ k = 1 ∨ k = 2 ∨ k = 3 := by omega
    · by_cases hl : e.a.length ≤ 100
      · have z : ¬ (100 : Int) < (e.a.length : Int) := by omega
        have HL2 : Hid (∀ j, j < 1 → (e.txt j).length ≤ 100) := Lib.hid (fun j hj => by
          by_cases e1 : j = 0
          · subst e1; exact hl
          · exact HL.out j (by omega))
        clear hl
        go_wp2_with fail
        go_roundw
        case rel => exact ⟨1, by omega, by go_num, rfl, HL2, hB⟩
        case measure => simp [intOf]
      · have z : (100 : Int) < (e.a.length : Int) := by omega
        have HF : Hid (checkE e = false) := Lib.hid (HNO.out (fun hh => by omega))
        clear hl
        go_wp2_with fail
        try simp only [Exit.noGoto]
        go_ret
        exact ⟨by rw [HF.out]; rfl, hB⟩
    · by_cases hl : e.b.length ≤ 100
      · have z : ¬ (100 : Int) < (e.b.length : Int) := by omega
        have HL2 : Hid (∀ j, j < 2 → (e.txt j).length ≤ 100) := Lib.hid (fun j hj => by
          by_cases e1 : j = 1
          · subst e1; exact hl
          · exact HL.out j (by omega))
        clear hl
        go_wp2_with fail
        go_roundw
        case rel => exact ⟨2, by omega, by go_num, rfl, HL2, hB⟩
        case measure => simp [intOf]
      · have z : (100 : Int) < (e.b.length : Int) := by omega
        have HF : Hid (checkE e = false) := Lib.hid (HNO.out (fun hh => by omega))
        clear hl
        go_wp2_with fail
        try simp only [Exit.noGoto]
        go_ret
        exact ⟨by rw [HF.out]; rfl, hB⟩
    · by_cases hl : e.c.length ≤ 100
      · have z : ¬ (100 : Int) < (e.c.length : Int) := by omega
        have HL2 : Hid (∀ j, j < 3 → (e.txt j).length ≤ 100) := Lib.hid (fun j hj => by
          by_cases e1 : j = 2
          · subst e1; exact hl
          · exact HL.out j (by omega))
        clear hl
        go_wp2_with fail
        go_roundw
        case rel => exact ⟨3, by omega, by go_num, rfl, HL2, hB⟩
        case measure => simp [intOf]
      · have z : (100 : Int) < (e.c.length : Int) := by omega
        have HF : Hid (checkE e = false) := Lib.hid (HNO.out (fun hh => by omega))
        clear hl
        go_wp2_with fail
        try simp only [Exit.noGoto]
        go_ret
        exact ⟨by rw [HF.out]; rfl, hB⟩
    · have HF : Hid (checkE e = false) := Lib.hid ((HOK.out (HL.out 0 (by omega)) (HL.out 1 (by omega)) (HL.out 2 (by omega))).trans HN.out)
      go_wp2_with fail
      try simp only [Exit.noGoto]
      go_ret
      exact ⟨by rw [HF.out]; rfl, hB⟩
set_option maxHeartbeats 8000000 in
theorem evCheck2 (e : Ev) (ha : e.a.length ≤ maxLen) (hb : e.b.length ≤ maxLen) (hc : e.c.length ≤ maxLen) (c0 : inB e.kind 1 21 = true) (c1 : inB e.account 0 99 = true) (c2 : inB e.purpose 0 9 = false) (w : World) :
    Calls Tryz.prog 9 #[e.val] w fun r w' => r = .returned (.bool (checkE e)) ∧ Below w.heap.size w w' := by
  have HN : Hid (numsE e = false) := Lib.hid (by unfold numsE; rw [c0, c1, c2]; rfl)
  unfold maxLen at ha hb hc
  have HT : Hid (∀ k, e.txt k = if k = 0 then e.a else if k = 1 then e.b else e.c) := Lib.hid fun _ => rfl
  have HOK := Lib.hid (@checkE_ok e)
  have HNO := Lib.hid (@checkE_no e)
  have x0 := idx66_0
  have x1 := idx66_1
  have x2 := idx66_2
  have sa : (bs e.a).size = e.a.length := rfl
  have sb : (bs e.b).size = e.b.length := rfl
  have sc : (bs e.c).size = e.c.length := rfl
  unfold Ev.val
  go_enter Tryz.func9, Tryz.ntmps9
  go_wp2_with fail
  go_step3
  go_wp2_with fail
  go_at_call 21
  refine (within21_any e.kind 1 21 _).mono ?_
  rintro r w0 ⟨rfl, hw0⟩
  subst hw0
  rw [c0]
  go_wp2_with fail
  go_at_call 21
  refine (within21_any e.account 0 99 _).mono ?_
  rintro r w1 ⟨rfl, hw1⟩
  subst hw1
  rw [c1]
  go_wp2_with fail
  go_at_call 21
  refine (within21_any e.purpose 0 9 _).mono ?_
  rintro r w2 ⟨rfl, hw2⟩
  subst hw2
  rw [c2]
  go_wp2_with fail
  try go_step3
  try go_wp2_with fail
  go_loopw [3, 5, 36] (fun v3 _ v36 wr => ∃ k : Nat, k ≤ 3 ∧ v36 = .int .i64 (k : Int) ∧ v3 = .bool false ∧ Hid (∀ j, j < k → (e.txt j).length ≤ 100) ∧ Below w.heap.size w wr)
    (fun _ _ v36 _ => 3 - (intOf v36).toNat)
  case atStart => exact ⟨0, by omega, rfl, rfl, Lib.hid (fun j hj => absurd hj (by omega)), (Below.refl _ w).alloc (Nat.le_refl _) _⟩
  case round =>
    obtain ⟨k, hk, rfl, rfl, HL, hB⟩ := hrel
    obtain rfl | rfl | rfl | rfl : k = 0 ∨ k = 1 ∨ k = 2 ∨ k = 3 := by omega
    · by_cases hl : e.a.length ≤ 100
      · have z : ¬ (100 : Int) < (e.a.length : Int) := by omega
        have HL2 : Hid (∀ j, j < 1 → (e.txt j).length ≤ 100) := Lib.hid (fun j hj => by
          by_cases e1 : j = 0
          · subst e1; exact hl
          · exact HL.out j (by omega))
        clear hl
        go_wp2_with fail
        go_roundw
        case rel => exact ⟨1, by omega, by go_num, rfl, HL2, hB⟩
        case measure => simp [intOf]
      · have z : (100 : Int) < (e.a.length : Int) := by omega
        have HF : Hid (checkE e = false) := Lib.hid (HNO.out (fun hh => by omega))
        clear hl
        go_wp2_with fail
        try simp only [Exit.noGoto]
        go_ret
        exact ⟨by rw [HF.out]; rfl, hB⟩
    · by_cases hl : e.b.length ≤ 100
      · have z : ¬ (100 : Int) < (e.b.length : Int) := by omega
        have HL2 : Hid (∀ j, j < 2 → (e.txt j).length ≤ 100) := Lib.hid (fun j hj => by
          by_cases e1 : j = 1
          · subst e1; exact hl
          · exact HL.out j (by omega))
        clear hl
        go_wp2_with fail
        go_roundw
        case rel => exact ⟨2, by omega, by go_num, rfl, HL2, hB⟩
        case measure => simp [intOf]
      · have z : (100 : Int) < (e.b.length : Int) := by omega
        have HF : Hid (checkE e = false) := Lib.hid (HNO.out (fun hh => by omega))
        clear hl
        go_wp2_with fail
        try simp only [Exit.noGoto]
        go_ret
        exact ⟨by rw [HF.out]; rfl, hB⟩
    · by_cases hl : e.c.length ≤ 100
      · have z : ¬ (100 : Int) < (e.c.length : Int) := by omega
        have HL2 : Hid (∀ j, j < 3 → (e.txt j).length ≤ 100) := Lib.hid (fun j hj => by
          by_cases e1 : j = 2
          · subst e1; exact hl
          · exact HL.out j (by omega))
        clear hl
        go_wp2_with fail
        go_roundw
        case rel => exact ⟨3, by omega, by go_num, rfl, HL2, hB⟩
        case measure => simp [intOf]
      · have z : (100 : Int) < (e.c.length : Int) := by omega
        have HF : Hid (checkE e = false) := Lib.hid (HNO.out (fun hh => by omega))
        clear hl
        go_wp2_with fail
        try simp only [Exit.noGoto]
        go_ret
        exact ⟨by rw [HF.out]; rfl, hB⟩
    · have HF : Hid (checkE e = false) := Lib.hid ((HOK.out (HL.out 0 (by omega)) (HL.out 1 (by omega)) (HL.out 2 (by omega))).trans HN.out)
      go_wp2_with fail
      try simp only [Exit.noGoto]
      go_ret
      exact ⟨by rw [HF.out]; rfl, hB⟩
set_option maxHeartbeats 8000000 in
theorem evCheck3 (e : Ev) (ha : e.a.length ≤ maxLen) (hb : e.b.length ≤ maxLen) (hc : e.c.length ≤ maxLen) (c0 : inB e.kind 1 21 = true) (c1 : inB e.account 0 99 = true) (c2 : inB e.purpose 0 9 = true) (c3 : inB e.at_ 0 1099511627776 = false) (w : World) :
    Calls Tryz.prog 9 #[e.val] w fun r w' => r = .returned (.bool (checkE e)) ∧ Below w.heap.size w w' := by
  have HN : Hid (numsE e = false) := Lib.hid (by unfold numsE; rw [c0, c1, c2, c3]; rfl)
  unfold maxLen at ha hb hc
  have HT : Hid (∀ k, e.txt k = if k = 0 then e.a else if k = 1 then e.b else e.c) := Lib.hid fun _ => rfl
  have HOK := Lib.hid (@checkE_ok e)
  have HNO := Lib.hid (@checkE_no e)
  have x0 := idx66_0
  have x1 := idx66_1
  have x2 := idx66_2
  have sa : (bs e.a).size = e.a.length := rfl
  have sb : (bs e.b).size = e.b.length := rfl
  have sc : (bs e.c).size = e.c.length := rfl
  unfold Ev.val
  go_enter Tryz.func9, Tryz.ntmps9
  go_wp2_with fail
  go_step3
  go_wp2_with fail
  go_at_call 21
  refine (within21_any e.kind 1 21 _).mono ?_
  rintro r w0 ⟨rfl, hw0⟩
  subst hw0
  rw [c0]
  go_wp2_with fail
  go_at_call 21
  refine (within21_any e.account 0 99 _).mono ?_
  rintro r w1 ⟨rfl, hw1⟩
  subst hw1
  rw [c1]
  go_wp2_with fail
  go_at_call 21
  refine (within21_any e.purpose 0 9 _).mono ?_
  rintro r w2 ⟨rfl, hw2⟩
  subst hw2
  rw [c2]
  go_wp2_with fail
  go_at_call 23
  refine (within23_any e.at_ 0 1099511627776 _).mono ?_
  rintro r w3 ⟨rfl, hw3⟩
  subst hw3
  rw [c3]
  go_wp2_with fail
  try go_step3
  try go_wp2_with fail
  go_loopw [3, 5, 36] (fun v3 _ v36 wr => ∃ k : Nat, k ≤ 3 ∧ v36 = .int .i64 (k : Int) ∧ v3 = .bool false ∧ Hid (∀ j, j < k → (e.txt j).length ≤ 100) ∧ Below w.heap.size w wr)
    (fun _ _ v36 _ => 3 - (intOf v36).toNat)
  case atStart => exact ⟨0, by omega, rfl, rfl, Lib.hid (fun j hj => absurd hj (by omega)), (Below.refl _ w).alloc (Nat.le_refl _) _⟩
  case round =>
    obtain ⟨k, hk, rfl, rfl, HL, hB⟩ := hrel
    obtain rfl | rfl | rfl | rfl : k = 0 ∨ k = 1 ∨ k = 2 ∨ k = 3 := by omega
    · by_cases hl : e.a.length ≤ 100
      · have z : ¬ (100 : Int) < (e.a.length : Int) := by omega
        have HL2 : Hid (∀ j, j < 1 → (e.txt j).length ≤ 100) := Lib.hid (fun j hj => by
          by_cases e1 : j = 0
          · subst e1; exact hl
          · exact HL.out j (by omega))
        clear hl
        go_wp2_with fail
        go_roundw
        case rel => exact ⟨1, by omega, by go_num, rfl, HL2, hB⟩
        case measure => simp [intOf]
      · have z : (100 : Int) < (e.a.length : Int) := by omega
        have HF : Hid (checkE e = false) := Lib.hid (HNO.out (fun hh => by omega))
        clear hl
        go_wp2_with fail
        try simp only [Exit.noGoto]
        go_ret
        exact ⟨by rw [HF.out]; rfl, hB⟩
    · by_cases hl : e.b.length ≤ 100
      · have z : ¬ (100 : Int) < (e.b.length : Int) := by omega
        have HL2 : Hid (∀ j, j < 2 → (e.txt j).length ≤ 100) := Lib.hid (fun j hj => by
          by_cases e1 : j = 1
          · subst e1; exact hl
          · exact HL.out j (by omega))
        clear hl
        go_wp2_with fail
        go_roundw
        case rel => exact ⟨2, by omega, by go_num, rfl, HL2, hB⟩
        case measure => simp [intOf]
      · have z : (100 : Int) < (e.b.length : Int) := by omega
        have HF : Hid (checkE e = false) := Lib.hid (HNO.out (fun hh => by omega))
        clear hl
        go_wp2_with fail
        try simp only [Exit.noGoto]
        go_ret
        exact ⟨by rw [HF.out]; rfl, hB⟩
    · by_cases hl : e.c.length ≤ 100
      · have z : ¬ (100 : Int) < (e.c.length : Int) := by omega
        have HL2 : Hid (∀ j, j < 3 → (e.txt j).length ≤ 100) := Lib.hid (fun j hj => by
          by_cases e1 : j = 2
          · subst e1; exact hl
          · exact HL.out j (by omega))
        clear hl
        go_wp2_with fail
        go_roundw
        case rel => exact ⟨3, by omega, by go_num, rfl, HL2, hB⟩
        case measure => simp [intOf]
      · have z : (100 : Int) < (e.c.length : Int) := by omega
        have HF : Hid (checkE e = false) := Lib.hid (HNO.out (fun hh => by omega))
        clear hl
        go_wp2_with fail
        try simp only [Exit.noGoto]
        go_ret
        exact ⟨by rw [HF.out]; rfl, hB⟩
    · have HF : Hid (checkE e = false) := Lib.hid ((HOK.out (HL.out 0 (by omega)) (HL.out 1 (by omega)) (HL.out 2 (by omega))).trans HN.out)
      go_wp2_with fail
      try simp only [Exit.noGoto]
      go_ret
      exact ⟨by rw [HF.out]; rfl, hB⟩
set_option maxHeartbeats 8000000 in
theorem evCheck4 (e : Ev) (ha : e.a.length ≤ maxLen) (hb : e.b.length ≤ maxLen) (hc : e.c.length ≤ maxLen) (c0 : inB e.kind 1 21 = true) (c1 : inB e.account 0 99 = true) (c2 : inB e.purpose 0 9 = true) (c3 : inB e.at_ 0 1099511627776 = true) (c4 : inB e.n 0 1099511627776 = false) (w : World) :
    Calls Tryz.prog 9 #[e.val] w fun r w' => r = .returned (.bool (checkE e)) ∧ Below w.heap.size w w' := by
  have HN : Hid (numsE e = false) := Lib.hid (by unfold numsE; rw [c0, c1, c2, c3, c4]; rfl)
  unfold maxLen at ha hb hc
  have HT : Hid (∀ k, e.txt k = if k = 0 then e.a else if k = 1 then e.b else e.c) := Lib.hid fun _ => rfl
  have HOK := Lib.hid (@checkE_ok e)
  have HNO := Lib.hid (@checkE_no e)
  have x0 := idx66_0
  have x1 := idx66_1
  have x2 := idx66_2
  have sa : (bs e.a).size = e.a.length := rfl
  have sb : (bs e.b).size = e.b.length := rfl
  have sc : (bs e.c).size = e.c.length := rfl
  unfold Ev.val
  go_enter Tryz.func9, Tryz.ntmps9
  go_wp2_with fail
  go_step3
  go_wp2_with fail
  go_at_call 21
  refine (within21_any e.kind 1 21 _).mono ?_
  rintro r w0 ⟨rfl, hw0⟩
  subst hw0
  rw [c0]
  go_wp2_with fail
  go_at_call 21
  refine (within21_any e.account 0 99 _).mono ?_
  rintro r w1 ⟨rfl, hw1⟩
  subst hw1
  rw [c1]
  go_wp2_with fail
  go_at_call 21
  refine (within21_any e.purpose 0 9 _).mono ?_
  rintro r w2 ⟨rfl, hw2⟩
  subst hw2
  rw [c2]
  go_wp2_with fail
  go_at_call 23
  refine (within23_any e.at_ 0 1099511627776 _).mono ?_
  rintro r w3 ⟨rfl, hw3⟩
  subst hw3
  rw [c3]
  go_wp2_with fail
  go_at_call 23
  refine (within23_any e.n 0 1099511627776 _).mono ?_
  rintro r w4 ⟨rfl, hw4⟩
  subst hw4
  rw [c4]
  go_wp2_with fail
  try go_step3
  try go_wp2_with fail
  go_loopw [3, 5, 36] (fun v3 _ v36 wr => ∃ k : Nat, k ≤ 3 ∧ v36 = .int .i64 (k : Int) ∧ v3 = .bool false ∧ Hid (∀ j, j < k → (e.txt j).length ≤ 100) ∧ Below w.heap.size w wr)
    (fun _ _ v36 _ => 3 - (intOf v36).toNat)
  case atStart => exact ⟨0, by omega, rfl, rfl, Lib.hid (fun j hj => absurd hj (by omega)), (Below.refl _ w).alloc (Nat.le_refl _) _⟩
  case round =>
    obtain ⟨k, hk, rfl, rfl, HL, hB⟩ := hrel
    obtain rfl | rfl | rfl | rfl : k = 0 ∨ k = 1 ∨ k = 2 ∨ k = 3 := by omega
    · by_cases hl : e.a.length ≤ 100
      · have z : ¬ (100 : Int) < (e.a.length : Int) := by omega
        have HL2 : Hid (∀ j, j < 1 → (e.txt j).length ≤ 100) := Lib.hid (fun j hj => by
          by_cases e1 : j = 0
          · subst e1; exact hl
          · exact HL.out j (by omega))
        clear hl
        go_wp2_with fail
        go_roundw
        case rel => exact ⟨1, by omega, by go_num, rfl, HL2, hB⟩
        case measure => simp [intOf]
      · have z : (100 : Int) < (e.a.length : Int) := by omega
        have HF : Hid (checkE e = false) := Lib.hid (HNO.out (fun hh => by omega))
        clear hl
        go_wp2_with fail
        try simp only [Exit.noGoto]
        go_ret
        exact ⟨by rw [HF.out]; rfl, hB⟩
    · by_cases hl : e.b.length ≤ 100
      · have z : ¬ (100 : Int) < (e.b.length : Int) := by omega
        have HL2 : Hid (∀ j, j < 2 → (e.txt j).length ≤ 100) := Lib.hid (fun j hj => by
          by_cases e1 : j = 1
          · subst e1; exact hl
          · exact HL.out j (by omega))
        clear hl
        go_wp2_with fail
        go_roundw
        case rel => exact ⟨2, by omega, by go_num, rfl, HL2, hB⟩
        case measure => simp [intOf]
      · have z : (100 : Int) < (e.b.length : Int) := by omega
        have HF : Hid (checkE e = false) := Lib.hid (HNO.out (fun hh => by omega))
        clear hl
        go_wp2_with fail
        try simp only [Exit.noGoto]
        go_ret
        exact ⟨by rw [HF.out]; rfl, hB⟩
    · by_cases hl : e.c.length ≤ 100
      · have z : ¬ (100 : Int) < (e.c.length : Int) := by omega
        have HL2 : Hid (∀ j, j < 3 → (e.txt j).length ≤ 100) := Lib.hid (fun j hj => by
          by_cases e1 : j = 2
          · subst e1; exact hl
          · exact HL.out j (by omega))
        clear hl
        go_wp2_with fail
        go_roundw
        case rel => exact ⟨3, by omega, by go_num, rfl, HL2, hB⟩
        case measure => simp [intOf]
      · have z : (100 : Int) < (e.c.length : Int) := by omega
        have HF : Hid (checkE e = false) := Lib.hid (HNO.out (fun hh => by omega))
        clear hl
        go_wp2_with fail
        try simp only [Exit.noGoto]
        go_ret
        exact ⟨by rw [HF.out]; rfl, hB⟩
    · have HF : Hid (checkE e = false) := Lib.hid ((HOK.out (HL.out 0 (by omega)) (HL.out 1 (by omega)) (HL.out 2 (by omega))).trans HN.out)
      go_wp2_with fail
      try simp only [Exit.noGoto]
      go_ret
      exact ⟨by rw [HF.out]; rfl, hB⟩
set_option maxHeartbeats 8000000 in
theorem evCheck5 (e : Ev) (ha : e.a.length ≤ maxLen) (hb : e.b.length ≤ maxLen) (hc : e.c.length ≤ maxLen) (c0 : inB e.kind 1 21 = true) (c1 : inB e.account 0 99 = true) (c2 : inB e.purpose 0 9 = true) (c3 : inB e.at_ 0 1099511627776 = true) (c4 : inB e.n 0 1099511627776 = true) (w : World) :
    Calls Tryz.prog 9 #[e.val] w fun r w' => r = .returned (.bool (checkE e)) ∧ Below w.heap.size w w' := by
  have HN : Hid (numsE e = true) := Lib.hid (by unfold numsE; rw [c0, c1, c2, c3, c4]; rfl)
  unfold maxLen at ha hb hc
  have HT : Hid (∀ k, e.txt k = if k = 0 then e.a else if k = 1 then e.b else e.c) := Lib.hid fun _ => rfl
  have HOK := Lib.hid (@checkE_ok e)
  have HNO := Lib.hid (@checkE_no e)
  have x0 := idx66_0
  have x1 := idx66_1
  have x2 := idx66_2
  have sa : (bs e.a).size = e.a.length := rfl
  have sb : (bs e.b).size = e.b.length := rfl
  have sc : (bs e.c).size = e.c.length := rfl
  unfold Ev.val
  go_enter Tryz.func9, Tryz.ntmps9
  go_wp2_with fail
  go_step3
  go_wp2_with fail
  go_at_call 21
  refine (within21_any e.kind 1 21 _).mono ?_
  rintro r w0 ⟨rfl, hw0⟩
  subst hw0
  rw [c0]
  go_wp2_with fail
  go_at_call 21
  refine (within21_any e.account 0 99 _).mono ?_
  rintro r w1 ⟨rfl, hw1⟩
  subst hw1
  rw [c1]
  go_wp2_with fail
  go_at_call 21
  refine (within21_any e.purpose 0 9 _).mono ?_
  rintro r w2 ⟨rfl, hw2⟩
  subst hw2
  rw [c2]
  go_wp2_with fail
  go_at_call 23
  refine (within23_any e.at_ 0 1099511627776 _).mono ?_
  rintro r w3 ⟨rfl, hw3⟩
  subst hw3
  rw [c3]
  go_wp2_with fail
  go_at_call 23
  refine (within23_any e.n 0 1099511627776 _).mono ?_
  rintro r w4 ⟨rfl, hw4⟩
  subst hw4
  rw [c4]
  go_wp2_with fail
  try go_step3
  try go_wp2_with fail
  go_loopw [3, 5, 36] (fun v3 _ v36 wr => ∃ k : Nat, k ≤ 3 ∧ v36 = .int .i64 (k : Int) ∧ v3 = .bool true ∧ Hid (∀ j, j < k → (e.txt j).length ≤ 100) ∧ Below w.heap.size w wr)
    (fun _ _ v36 _ => 3 - (intOf v36).toNat)
  case atStart => exact ⟨0, by omega, rfl, rfl, Lib.hid (fun j hj => absurd hj (by omega)), (Below.refl _ w).alloc (Nat.le_refl _) _⟩
  case round =>
    obtain ⟨k, hk, rfl, rfl, HL, hB⟩ := hrel
    obtain rfl | rfl | rfl | rfl : k = 0 ∨ k = 1 ∨ k = 2 ∨ k = 3 := by omega
    · by_cases hl : e.a.length ≤ 100
      · have z : ¬ (100 : Int) < (e.a.length : Int) := by omega
        have HL2 : Hid (∀ j, j < 1 → (e.txt j).length ≤ 100) := Lib.hid (fun j hj => by
          by_cases e1 : j = 0
          · subst e1; exact hl
          · exact HL.out j (by omega))
        clear hl
        go_wp2_with fail
        go_roundw
        case rel => exact ⟨1, by omega, by go_num, rfl, HL2, hB⟩
        case measure => simp [intOf]
      · have z : (100 : Int) < (e.a.length : Int) := by omega
        have HF : Hid (checkE e = false) := Lib.hid (HNO.out (fun hh => by omega))
        clear hl
        go_wp2_with fail
        try simp only [Exit.noGoto]
        go_ret
        exact ⟨by rw [HF.out]; rfl, hB⟩
    · by_cases hl : e.b.length ≤ 100
      · have z : ¬ (100 : Int) < (e.b.length : Int) := by omega
        have HL2 : Hid (∀ j, j < 2 → (e.txt j).length ≤ 100) := Lib.hid (fun j hj => by
          by_cases e1 : j = 1
          · subst e1; exact hl
          · exact HL.out j (by omega))
        clear hl
        go_wp2_with fail
        go_roundw
        case rel => exact ⟨2, by omega, by go_num, rfl, HL2, hB⟩
        case measure => simp [intOf]
      · have z : (100 : Int) < (e.b.length : Int) := by omega
        have HF : Hid (checkE e = false) := Lib.hid (HNO.out (fun hh => by omega))
        clear hl
        go_wp2_with fail
        try simp only [Exit.noGoto]
        go_ret
        exact ⟨by rw [HF.out]; rfl, hB⟩
    · by_cases hl : e.c.length ≤ 100
      · have z : ¬ (100 : Int) < (e.c.length : Int) := by omega
        have HL2 : Hid (∀ j, j < 3 → (e.txt j).length ≤ 100) := Lib.hid (fun j hj => by
          by_cases e1 : j = 2
          · subst e1; exact hl
          · exact HL.out j (by omega))
        clear hl
        go_wp2_with fail
        go_roundw
        case rel => exact ⟨3, by omega, by go_num, rfl, HL2, hB⟩
        case measure => simp [intOf]
      · have z : (100 : Int) < (e.c.length : Int) := by omega
        have HF : Hid (checkE e = false) := Lib.hid (HNO.out (fun hh => by omega))
        clear hl
        go_wp2_with fail
        try simp only [Exit.noGoto]
        go_ret
        exact ⟨by rw [HF.out]; rfl, hB⟩
    · have HF : Hid (checkE e = true) := Lib.hid ((HOK.out (HL.out 0 (by omega)) (HL.out 1 (by omega)) (HL.out 2 (by omega))).trans HN.out)
      go_wp2_with fail
      try simp only [Exit.noGoto]
      go_ret
      exact ⟨by rw [HF.out]; rfl, hB⟩
theorem evCheck_any (e : Ev) (ha : e.a.length ≤ maxLen) (hb : e.b.length ≤ maxLen) (hc : e.c.length ≤ maxLen) (w : World) :
    Calls Tryz.prog 9 #[e.val] w fun r w' => r = .returned (.bool (checkE e)) ∧ Below w.heap.size w w' := by
  cases c0 : inB e.kind 1 21 with
  | false => exact evCheck0 e ha hb hc c0 w
  | true =>
    cases c1 : inB e.account 0 99 with
    | false => exact evCheck1 e ha hb hc c0 c1 w
    | true =>
      cases c2 : inB e.purpose 0 9 with
      | false => exact evCheck2 e ha hb hc c0 c1 c2 w
      | true =>
        cases c3 : inB e.at_ 0 1099511627776 with
        | false => exact evCheck3 e ha hb hc c0 c1 c2 c3 w
        | true =>
          cases c4 : inB e.n 0 1099511627776 with
          | false => exact evCheck4 e ha hb hc c0 c1 c2 c3 c4 w
          | true =>
            exact evCheck5 e ha hb hc c0 c1 c2 c3 c4 w
end Go.Proofs.YtjiaoppefinljaaGreatDoor.Pk
