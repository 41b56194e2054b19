/- Contracts of a reader of numbers and texts. -/
import Derived.Test.YtjiaoppefinljaaGreatDoorRows
import Derived.Test.YtjiaoppefinljaaGreatDoorJa
import Derived.WalkKit
import Derived.WalkSpells
import Derived.WalkLawsBesides
import Derived.ProofKit
import Derived.Lib.Hide
import Derived.Lib.Bytealg
import Derived.Deep.QuietTactic
import Derived.BigQuiet
import Derived.BigRegion
import Derived.IntWalk
set_option linter.unusedVariables false
set_option linter.unusedSimpArgs false
set_option linter.unusedSectionVars false
namespace Go.Proofs.YtjiaoppefinljaaGreatDoor.Pk
open Go.RowKit
set_option maxRecDepth 100000

def bs (l : List UInt8) : ByteArray := ⟨l.toArray⟩
theorem bs_size (l : List UInt8) : (bs l).size = l.length := rfl
/-- what may have turned: these blocks alone, of those that lay -/
structure Keep (S : List Nat) (w w' : World) : Prop where
  os : w'.os = w.os
  tape : w'.tape = w.tape
  output : w'.output = w.output
  size : w.heap.size ≤ w'.heap.size
  block : ∀ k, k < w.heap.size → k ∉ S → w'.heap[k]? = w.heap[k]?
theorem Keep.refl (S : List Nat) (w : World) : Keep S w w := ⟨rfl, rfl, rfl, Nat.le_refl _, fun _ _ _ => rfl⟩
theorem Keep.trans {S : List Nat} {a b c : World} (h1 : Keep S a b) (h2 : Keep S b c) : Keep S a c :=
  ⟨h2.os.trans h1.os, h2.tape.trans h1.tape, h2.output.trans h1.output, Nat.le_trans h1.size h2.size, fun k hk hs => (h2.block k (Nat.lt_of_lt_of_le hk h1.size) hs).trans (h1.block k hk hs)⟩
theorem Keep.setCell {S : List Nat} {w w' : World} (h : Keep S w w') (p : Addr) (hp : p.block ∈ S) (v : Value) : Keep S w (w'.setCell p v) := by
  refine ⟨h.os, h.tape, h.output, by rw [show (w'.setCell p v).heap.size = w'.heap.size from by simp [World.setCell]]; exact h.size, fun k hk hs => ?_⟩
  rw [← h.block k hk hs]
  exact Below.heap_setCell _ _ _ _ (fun e => hs (by rw [← e] at hp; exact hp))
theorem Keep.drew {S : List Nat} {w w' : World} (h : Keep S w w') : Keep S w w'.drew := ⟨h.os, h.tape, h.output, h.size, h.block⟩

/-- a reader that lies at a block -/
def RdAt (W : World) (b : Nat) (r : Rd) : Prop := W.heap[b]? = some (.cells #[.string (bs (r.getD [])), .bool r.isNone] 83 (0, 0))

set_option maxHeartbeats 1000000 in
theorem Read_any (s : ByteArray) (w : World) : Calls Tryz.prog 12 #[.string s] w fun e w' => e = .returned (.pointer (some ⟨w.heap.size, 0, none⟩)) ∧ w' = w.alloc (.cells #[.string s, .bool false] 83) := by
  go_enter Tryz.func12, Tryz.ntmps12
  go_wp2_with fail
  go_ret
  exact ⟨rfl, rfl⟩

theorem RdAt.cell0 {W : World} {b : Nat} {r : Rd} (h : RdAt W b r) : W.cell? ⟨b, 0, none⟩ = some (.string (bs (r.getD []))) := by
  unfold RdAt at h; simp [World.cell?, h]
theorem RdAt.cell1 {W : World} {b : Nat} {r : Rd} (h : RdAt W b r) : W.cell? ⟨b, 1, none⟩ = some (.bool r.isNone) := by
  unfold RdAt at h; simp [World.cell?, h]
theorem RdAt.frozen {W : World} {b : Nat} {r : Rd} (h : RdAt W b r) (j : Nat) : W.frozen? ⟨b, j, none⟩ = false := by
  unfold RdAt at h; simp [World.frozen?, h]
theorem RdAt.set {W : World} {b : Nat} {r : Rd} (h : RdAt W b r) (r' : Rd) : RdAt ((W.setCell ⟨b, 0, none⟩ (.string (bs (r'.getD [])))).setCell ⟨b, 1, none⟩ (.bool r'.isNone)) b r' := by
  unfold RdAt at h ⊢
  simp [World.setCell, Array.getElem?_modify, h]
theorem RdAt.set0 {W : World} {b : Nat} {s : List UInt8} (h : RdAt W b (some s)) (s' : List UInt8) : RdAt (W.setCell ⟨b, 0, none⟩ (.string (bs s'))) b (some s') := by
  unfold RdAt at h ⊢
  simp [World.setCell, Array.getElem?_modify, h]

set_option maxHeartbeats 1000000 in
theorem Good_any (b : Nat) (r : Rd) (w : World) (h : RdAt w b r) : Calls Tryz.prog 34 #[.pointer (some ⟨b, 0, none⟩)] w fun e w' => e = .returned (.bool r.isSome) ∧ w' = w := by
  have h1 := h.cell1
  cases r with
  | none =>
    go_enter Tryz.func34, Tryz.ntmps34
    go_wp2
    go_ret
    exact ⟨rfl, rfl⟩
  | some s =>
    go_enter Tryz.func34, Tryz.ntmps34
    go_wp2
    go_ret
    exact ⟨rfl, rfl⟩
set_option maxHeartbeats 1000000 in
theorem Rest_any (b : Nat) (r : Rd) (w : World) (h : RdAt w b r) : Calls Tryz.prog 32 #[.pointer (some ⟨b, 0, none⟩)] w fun e w' => e = .returned (.string (bs (r.getD []))) ∧ w' = w := by
  have h0 := h.cell0
  have hg := Good_any b r w h
  cases r with
  | none =>
    go_enter Tryz.func32, Tryz.ntmps32
    go_wp2_with (go_at_call 34; refine hg.mono ?_; rintro e w' ⟨rfl, rfl⟩)
    go_ret
    exact ⟨rfl, rfl⟩
  | some s =>
    go_enter Tryz.func32, Tryz.ntmps32
    go_wp2_with (go_at_call 34; refine hg.mono ?_; rintro e w' ⟨rfl, rfl⟩)
    go_ret
    exact ⟨rfl, rfl⟩
theorem bs_empty (l : List UInt8) : (bs l).toList.isEmpty = l.isEmpty := by
  rw [Lib.toList_data]
  cases l <;> rfl
set_option maxHeartbeats 1000000 in
theorem End_any (b : Nat) (r : Rd) (w : World) (h : RdAt w b r) : Calls Tryz.prog 15 #[.pointer (some ⟨b, 0, none⟩)] w fun e w' => e = .returned (.bool (decide (r = some []))) ∧ w' = w := by
  have h0 := h.cell0
  have hg := Good_any b r w h
  cases r with
  | none =>
    go_enter Tryz.func15, Tryz.ntmps15
    go_wp2_with (go_at_call 34; refine hg.mono ?_; rintro e w' ⟨rfl, rfl⟩)
    go_ret
    exact ⟨rfl, rfl⟩
  | some s =>
    have he := bs_empty s
    cases s with
    | nil =>
      go_enter Tryz.func15, Tryz.ntmps15
      go_wp2_with (go_at_call 34; refine hg.mono ?_; rintro e w' ⟨rfl, rfl⟩)
      go_ret
      exact ⟨rfl, rfl⟩
    | cons a s =>
      go_enter Tryz.func15, Tryz.ntmps15
      go_wp2_with (go_at_call 34; refine hg.mono ?_; rintro e w' ⟨rfl, rfl⟩)
      go_ret
      exact ⟨rfl, rfl⟩

theorem bs_take (s : List UInt8) (n : Nat) : (bs s).extract 0 n = bs (s.take n) := by
  apply ByteArray.ext
  rw [ByteArray.data_extract]
  unfold bs
  simp
theorem bs_drop (s : List UInt8) (n : Nat) : (bs s).extract n s.length = bs (s.drop n) := by
  apply ByteArray.ext
  rw [ByteArray.data_extract]
  unfold bs
  simp [List.take_of_length_le]
/-- what taking so many bytes gives -/
def tk (r : Rd) (n : Nat) (may : Bool) : List UInt8 × Bool × Rd :=
  match r with
  | none => ([], false, none)
  | some s => if may = true ∧ n ≤ s.length then (s.take n, true, some (s.drop n)) else ([], false, none)
set_option maxHeartbeats 2000000 in
theorem take_any (b : Nat) (r : Rd) (n : Nat) (may : Bool) (w : World) (h : RdAt w b r) (hs : ∀ s, r = some s → s.length ≤ maxLen) :
    Calls Tryz.prog 33 #[.pointer (some ⟨b, 0, none⟩), .int .u64 (n : Int), .bool may] w fun e w' => e = .returned (.tuple #[.string (bs (tk r n may).1), .bool (tk r n may).2.1]) ∧ RdAt w' b (tk r n may).2.2 ∧ Keep [b] w w' := by
  have h0 := h.cell0
  have h1 := h.cell1
  have f0 := h.frozen 0
  have f1 := h.frozen 1
  have hg := Good_any b r w h
  cases r with
  | none =>
    go_enter Tryz.func33, Tryz.ntmps33
    go_wp2_with (go_at_call 34; refine hg.mono ?_; rintro e w' ⟨rfl, rfl⟩)
    go_ret2
    exact ⟨rfl, h, Keep.refl _ _⟩
  | some s =>
    have hl := hs s rfl
    unfold maxLen at hl
    have hbl : (bs s).size = s.length := rfl
    cases may with
    | false =>
      go_enter Tryz.func33, Tryz.ntmps33
      go_wp2_with (go_at_call 34; refine hg.mono ?_; rintro e w' ⟨rfl, rfl⟩)
      go_ret2
      exact ⟨rfl, h.set none, ((Keep.refl _ _).setCell _ (by simp) _).setCell _ (by simp) _⟩
    | true =>
      by_cases hc : n ≤ s.length
      · have hcz : ¬ (s.length : Int) < (n : Int) := by omega
        go_enter Tryz.func33, Tryz.ntmps33
        go_wp2_with (go_at_call 34; refine hg.mono ?_; rintro e w' ⟨rfl, rfl⟩)
        go_ret2
        have e : tk (some s) n true = (s.take n, true, some (s.drop n)) := by unfold tk; simp [hc]
        rw [e]
        refine ⟨?_, ?_, (Keep.refl _ _).setCell _ (by simp) _⟩
        · show Ending.returned (.tuple #[.string ((bs s).extract 0 n), .bool true]) = _
          rw [bs_take]
        · rw [bs_drop]
          exact h.set0 _
      · have hcz : (s.length : Int) < (n : Int) := by omega
        go_enter Tryz.func33, Tryz.ntmps33
        go_wp2_with (go_at_call 34; refine hg.mono ?_; rintro e w' ⟨rfl, rfl⟩)
        go_ret2
        have e : tk (some s) n true = ([], false, none) := by unfold tk; simp [hc]
        rw [e]
        exact ⟨rfl, h.set none, ((Keep.refl _ _).setCell _ (by simp) _).setCell _ (by simp) _⟩

/-- the bytes ahead of the i-th one all go on -/
theorem num_step {s : List UInt8} {i acc : Nat} (h : i < s.length) (hi : i < 10) (h9 : ¬ (i = 9 ∧ 1 < (s[i]'h).toNat)) (hb : ¬ (s[i]'h).toNat < 128) :
    num (s.drop i) i acc = num (s.drop (i + 1)) (i + 1) (acc + (s[i]'h).toNat % 128 * 2 ^ (7 * i)) := by
  rw [List.drop_eq_getElem_cons h]
  conv => lhs; unfold num
  rw [if_neg (by omega), if_neg h9, if_neg hb]
theorem num_last {s : List UInt8} {i acc : Nat} (h : i < s.length) (hi : i < 10) (h9 : ¬ (i = 9 ∧ 1 < (s[i]'h).toNat)) (hb : (s[i]'h).toNat < 128) :
    num (s.drop i) i acc = (acc + (s[i]'h).toNat % 128 * 2 ^ (7 * i), if 0 < (s[i]'h).toNat ∨ i = 0 then i + 1 else 0) := by
  rw [List.drop_eq_getElem_cons h]
  unfold num
  rw [if_neg (by omega), if_neg h9, if_pos hb]
theorem num_nine {s : List UInt8} {i acc : Nat} (h : i < s.length) (h9 : i = 9 ∧ 1 < (s[i]'h).toNat) : num (s.drop i) i acc = (acc, 0) := by
  rw [List.drop_eq_getElem_cons h]
  unfold num
  rw [if_neg (by omega), if_pos h9]
theorem num_stop {s : List UInt8} {i acc : Nat} (h : ¬ (i < s.length ∧ i < 10)) (hi : i ≤ 10) : num (s.drop i) i acc = (acc, 0) := by
  by_cases h1 : i < s.length
  · obtain rfl : i = 10 := by omega
    rw [List.drop_eq_getElem_cons h1]
    unfold num
    rw [if_pos rfl]
  · rw [List.drop_of_length_le (by omega)]
    rfl
theorem u64_wrap_small (n : Nat) (h : n < 2 ^ 64) : IntKind.u64.wrap (n : Int) = (n : Int) := by
  show (n : Int) % (2 : Int) ^ 64 = n
  omega
theorem u64_or_shift (n m k : Nat) (hn : n < 2 ^ k) (hm : n + m * 2 ^ k < 2 ^ 64) : bits .or .u64 (n : Int) ((m * 2 ^ k : Nat) : Int) = ((n + m * 2 ^ k : Nat) : Int) := by
  have h1 : n < 2 ^ 64 := by omega
  have h2 : m * 2 ^ k < 2 ^ 64 := by omega
  have key : (BitVec.ofInt 64 (n : Int) ||| BitVec.ofInt 64 ((m * 2 ^ k : Nat) : Int)).toNat = n + m * 2 ^ k := by
    rw [BitVec.toNat_or, BitVec.toNat_ofInt, BitVec.toNat_ofInt]
    have e1 : ((n : Int) % ((2 ^ 64 : Nat) : Int)).toNat = n := by omega
    have e2 : (((m * 2 ^ k : Nat) : Int) % ((2 ^ 64 : Nat) : Int)).toNat = m * 2 ^ k := by omega
    rw [e1, e2, Nat.or_comm]
    have := Nat.shiftLeft_add_eq_or_of_lt hn m
    rw [Nat.shiftLeft_eq] at this
    omega
  show IntKind.u64.wrap ((BitVec.ofInt 64 (n : Int) ||| BitVec.ofInt 64 ((m * 2 ^ k : Nat) : Int)).toNat : Nat) = _
  rw [key]
  exact u64_wrap_small _ hm
theorem u8_and127 (n : Nat) : bits .and .u8 (n : Int) 127 = ((n % 128 : Nat) : Int) := by
  have h127 : (BitVec.ofInt 8 127).toNat = 2 ^ 7 - 1 := by decide
  have key : (BitVec.ofInt 8 (n : Int) &&& BitVec.ofInt 8 127).toNat = n % 128 := by
    rw [BitVec.toNat_and, BitVec.toNat_ofInt, h127, Nat.and_two_pow_sub_one_eq_mod]
    omega
  show IntKind.u8.wrap ((BitVec.ofInt 8 (n : Int) &&& BitVec.ofInt 8 127).toNat : Nat) = _
  rw [key]
  show ((n % 128 : Nat) : Int) % (2 : Int) ^ 8 = _
  omega
theorem or_expr (acc x k : Nat) (hacc : acc < 2 ^ (7 * k)) (hx : x < 256) (hk : k ≤ 9) (h9 : k = 9 → x ≤ 1) :
    bits .or .u64 (acc : Int) (IntKind.u64.wrap (IntKind.u64.wrap (bits .and .u8 (x : Int) 127) * 2 ^ (7 * k))) = ((acc + x % 128 * 2 ^ (7 * k) : Nat) : Int) ∧ acc + x % 128 * 2 ^ (7 * k) < 2 ^ (7 * (k + 1)) ∧ acc + x % 128 * 2 ^ (7 * k) < 18446744073709551616 := by
  have hm : x % 128 < 128 := Nat.mod_lt _ (by omega)
  have h1 : acc + x % 128 * 2 ^ (7 * k) < 2 ^ (7 * (k + 1)) := by
    rw [pow_succ7]
    have : (x % 128 + 1) * 2 ^ (7 * k) ≤ 128 * 2 ^ (7 * k) := Nat.mul_le_mul_right _ (by omega)
    rw [Nat.add_mul] at this
    omega
  have h2 : acc + x % 128 * 2 ^ (7 * k) < 2 ^ 64 := by
    by_cases e : k = 9
    · have hx1 := h9 e
      subst e
      have hp : (2 : Nat) ^ (7 * 9) = 9223372036854775808 := by decide
      generalize (2 : Nat) ^ (7 * 9) = y at *
      have h64 : (2 : Nat) ^ 64 = 18446744073709551616 := by decide
      generalize (2 : Nat) ^ 64 = z at *
      have hxm : x % 128 = 0 ∨ x % 128 = 1 := by omega
      rcases hxm with h | h <;> rw [h] <;> omega
    · refine Nat.lt_of_lt_of_le h1 (Nat.pow_le_pow_right (by omega) (by omega))
  refine ⟨?_, h1, h2⟩
  rw [u8_and127, u64_wrap_small _ (by omega)]
  rw [show (((x % 128 : Nat) : Int) * 2 ^ (7 * k)) = ((x % 128 * 2 ^ (7 * k) : Nat) : Int) from by push_cast; rfl]
  rw [u64_wrap_small _ (by omega)]
  exact u64_or_shift _ _ _ hacc h2
theorem bs_get (s : List UInt8) (k : Nat) (h : k < s.length) (h2 : k < (bs s).size) : (bs s)[k]'h2 = s[k]'h := by
  unfold bs
  rfl
set_option maxHeartbeats 8000000 in
theorem number_any (s : List UInt8) (hs : s.length ≤ maxLen) (w : World) :
    Calls Tryz.prog 31 #[.string (bs s)] w fun e w' => e = .returned (.tuple #[.int .u64 ((num s 0 0).1 : Nat), .int .i64 ((num s 0 0).2 : Nat)]) ∧ w' = w := by
  unfold maxLen at hs
  have hbl : (bs s).size = s.length := rfl
  generalize hR : num s 0 0 = R
  have HR := Lib.hid hR
  clear hR
  obtain ⟨n10, hn⟩ : ∃ n10, n10 = min s.length 10 := ⟨_, rfl⟩
  have HN := Lib.hid hn
  have hn1 : n10 ≤ s.length := by omega
  have hn2 : n10 ≤ 10 := by omega
  go_enter Tryz.func31, Tryz.ntmps31
  go_wp2_with fail
  go_step3
  go_wp2_with fail
  go_step3
  by_cases hmin : 10 < s.length
  · obtain rfl : n10 = 10 := by omega
    clear hn
    have hz : ¬ (s.length : Int) < 10 := by omega
    go_wp2_with fail
    go_loopw [2, 3, 4, 5, 9] (fun v2 v3 _ _ v9 wr => ∃ (k acc : Nat), k ≤ 10 ∧ v9 = .int .i64 (k : Int) ∧ v2 = .int .u64 (acc : Int) ∧ v3 = .int .i64 0 ∧ acc < 2 ^ (7 * k) ∧ Hid (num (s.drop k) k acc = R) ∧ wr = w)
      (fun _ _ _ _ v9 _ => 10 - (intOf v9).toNat)
    case atStart => exact ⟨0, 0, by omega, rfl, rfl, rfl, by simp, HR, rfl⟩
    case round =>
      obtain ⟨k, acc, hk, rfl, rfl, rfl, hacc, HK, rfl⟩ := hrel
      by_cases hlt : k < 10
      · have hkl : k < s.length := by omega
        have hkb : k < (bs s).size := hkl
        have hkz : (k : Int) < 10 := by omega
        have hkz2 : (k : Int) < (s.length : Int) := by omega
        have hk0 : (0 : Int) ≤ (k : Int) := by omega
        obtain ⟨x, hx⟩ : ∃ x, ((bs s)[k]'hkb).toNat = x := ⟨_, rfl⟩
        have HX : Hid ((s[k]'hkl).toNat = x) := Lib.hid (by rw [← bs_get s k hkl hkb]; exact hx)
        have hx256 : x < 256 := by rw [← hx]; exact UInt8.toNat_lt _
        by_cases c9 : k = 9 ∧ 1 < x
        · have HE := Lib.hid ((num_nine hkl (acc := acc) (by rw [HX.out]; exact c9)).symm.trans HK.out)
          have z9 : ((k : Int) == 9) = true := beq_iff_eq.2 (by omega)
          have y1 : decide ((1 : Int) < (x : Int)) = true := decide_eq_true (by omega)
          have y2 : (1 : Int) < (x : Int) := by omega
          clear c9
          go_wp2_with fail
          try simp only [Exit.noGoto]
          go_ret2
          exact ⟨by rw [← HE.out]; rfl, rfl⟩
        · have HOR := Lib.hid (or_expr acc x k hacc hx256 (by omega) (fun e => by omega))
          have h7k : (7 * (k : Int)) < 64 := by omega
          have z7 : (0 : Int) ≤ 7 * (k : Int) := by omega
          by_cases hx128 : x < 128
          · have HE := Lib.hid ((num_last hkl (acc := acc) (by omega) (by rw [HX.out]; exact c9) (by rw [HX.out]; exact hx128)).symm.trans HK.out)
            rw [HX.out] at HE
            have y3 : decide ((x : Int) < 128) = true := decide_eq_true (by omega)
            have y4 : (x : Int) < 128 := by omega
            by_cases hk9 : k = 9
            · have z9 : ((k : Int) == 9) = true := beq_iff_eq.2 (by omega)
              have y1 : decide ((1 : Int) < (x : Int)) = false := decide_eq_false (by omega)
              have y2 : ¬ (1 : Int) < (x : Int) := by omega
              have k0 : ((k : Int) == 0) = false := beq_eq_false_iff_ne.2 (by omega)
              have HK9 := Lib.hid hk9
              clear hk9 c9 hx128
              by_cases hx0 : 0 < x
              · rw [if_pos (Or.inl hx0)] at HE
                have y5 : decide ((0 : Int) < (x : Int)) = true := decide_eq_true (by omega)
                go_wp2_with fail
                try simp only [Exit.noGoto]
                go_ret2
                exact ⟨by rw [← HE.out]; exact congrArg (fun z => Ending.returned (.tuple #[.int .u64 z, .int .i64 ((k + 1 : Nat) : Int)])) HOR.out.1, rfl⟩
              · rw [if_neg (by have := HK9.out; omega)] at HE
                have y5 : decide ((0 : Int) < (x : Int)) = false := decide_eq_false (by omega)
                go_wp2_with fail
                try simp only [Exit.noGoto]
                go_ret2
                exact ⟨by rw [← HE.out]; exact congrArg (fun z => Ending.returned (.tuple #[.int .u64 z, .int .i64 ((0 : Nat) : Int)])) HOR.out.1, rfl⟩
            · have z9 : ((k : Int) == 9) = false := beq_eq_false_iff_ne.2 (by omega)
              have HK9 := Lib.hid hk9
              clear hk9 c9 hx128
              by_cases hx0 : 0 < x
              · rw [if_pos (Or.inl hx0)] at HE
                have y5 : decide ((0 : Int) < (x : Int)) = true := decide_eq_true (by omega)
                go_wp2_with fail
                try simp only [Exit.noGoto]
                go_ret2
                exact ⟨by rw [← HE.out]; exact congrArg (fun z => Ending.returned (.tuple #[.int .u64 z, .int .i64 ((k + 1 : Nat) : Int)])) HOR.out.1, rfl⟩
              · have y5 : decide ((0 : Int) < (x : Int)) = false := decide_eq_false (by omega)
                by_cases hk00 : k = 0
                · rw [if_pos (Or.inr hk00)] at HE
                  have k0 : ((k : Int) == 0) = true := beq_iff_eq.2 (by omega)
                  have HK0 := Lib.hid hk00
                  clear hk00
                  go_wp2_with fail
                  try simp only [Exit.noGoto]
                  go_ret2
                  exact ⟨by rw [← HE.out]; exact congrArg (fun z => Ending.returned (.tuple #[.int .u64 z, .int .i64 ((k + 1 : Nat) : Int)])) HOR.out.1, rfl⟩
                · rw [if_neg (by omega)] at HE
                  have k0 : ((k : Int) == 0) = false := beq_eq_false_iff_ne.2 (by omega)
                  clear hk00
                  go_wp2_with fail
                  try simp only [Exit.noGoto]
                  go_ret2
                  exact ⟨by rw [← HE.out]; exact congrArg (fun z => Ending.returned (.tuple #[.int .u64 z, .int .i64 ((0 : Nat) : Int)])) HOR.out.1, rfl⟩
          · have HN2 : Hid (num (s.drop (k + 1)) (k + 1) (acc + x % 128 * 2 ^ (7 * k)) = R) := Lib.hid (by rw [← HK.out, num_step hkl (by omega) (by rw [HX.out]; exact c9) (by rw [HX.out]; exact hx128), HX.out])
            have z9 : ((k : Int) == 9) = false := beq_eq_false_iff_ne.2 (by omega)
            have y3 : decide ((x : Int) < 128) = false := decide_eq_false (by omega)
            have y4 : ¬ (x : Int) < 128 := by omega
            clear c9 hx128
            go_wp2_with fail
            go_roundw
            case rel => exact ⟨k + 1, acc + x % 128 * 2 ^ (7 * k), by omega, by go_num, congrArg (Value.int .u64) HOR.out.1, rfl, HOR.out.2.1, HN2, trivial⟩
            case measure => simp [intOf]; omega
      · obtain rfl : k = 10 := by omega
        have HE := Lib.hid ((num_stop (s := s) (i := 10) (acc := acc) (by have := HN.out; omega) (by omega)).symm.trans HK.out)
        go_wp2_with fail
        try simp only [Exit.noGoto]
        go_ret2
        exact ⟨by rw [← HE.out]; rfl, rfl⟩
  · obtain rfl : n10 = s.length := by omega
    clear hn
    have hz : (s.length : Int) ≤ 10 := by omega
    go_wp2_with fail
    go_loopw [2, 3, 4, 5, 9] (fun v2 v3 _ _ v9 wr => ∃ (k acc : Nat), k ≤ s.length ∧ v9 = .int .i64 (k : Int) ∧ v2 = .int .u64 (acc : Int) ∧ v3 = .int .i64 0 ∧ acc < 2 ^ (7 * k) ∧ Hid (num (s.drop k) k acc = R) ∧ wr = w)
      (fun _ _ _ _ v9 _ => s.length - (intOf v9).toNat)
    case atStart => exact ⟨0, 0, by omega, rfl, rfl, rfl, by simp, HR, rfl⟩
    case round =>
      obtain ⟨k, acc, hk, rfl, rfl, rfl, hacc, HK, rfl⟩ := hrel
      by_cases hlt : k < s.length
      · have hkl : k < s.length := by omega
        have hkb : k < (bs s).size := hkl
        have hkz : (k : Int) < (s.length : Int) := by omega
        have hkz2 : (k : Int) < (s.length : Int) := by omega
        have hk0 : (0 : Int) ≤ (k : Int) := by omega
        obtain ⟨x, hx⟩ : ∃ x, ((bs s)[k]'hkb).toNat = x := ⟨_, rfl⟩
        have HX : Hid ((s[k]'hkl).toNat = x) := Lib.hid (by rw [← bs_get s k hkl hkb]; exact hx)
        have hx256 : x < 256 := by rw [← hx]; exact UInt8.toNat_lt _
        by_cases c9 : k = 9 ∧ 1 < x
        · have HE := Lib.hid ((num_nine hkl (acc := acc) (by rw [HX.out]; exact c9)).symm.trans HK.out)
          have z9 : ((k : Int) == 9) = true := beq_iff_eq.2 (by omega)
          have y1 : decide ((1 : Int) < (x : Int)) = true := decide_eq_true (by omega)
          have y2 : (1 : Int) < (x : Int) := by omega
          clear c9
          go_wp2_with fail
          try simp only [Exit.noGoto]
          go_ret2
          exact ⟨by rw [← HE.out]; rfl, rfl⟩
        · have HOR := Lib.hid (or_expr acc x k hacc hx256 (by omega) (fun e => by omega))
          have h7k : (7 * (k : Int)) < 64 := by omega
          have z7 : (0 : Int) ≤ 7 * (k : Int) := by omega
          by_cases hx128 : x < 128
          · have HE := Lib.hid ((num_last hkl (acc := acc) (by omega) (by rw [HX.out]; exact c9) (by rw [HX.out]; exact hx128)).symm.trans HK.out)
            rw [HX.out] at HE
            have y3 : decide ((x : Int) < 128) = true := decide_eq_true (by omega)
            have y4 : (x : Int) < 128 := by omega
            by_cases hk9 : k = 9
            · have z9 : ((k : Int) == 9) = true := beq_iff_eq.2 (by omega)
              have y1 : decide ((1 : Int) < (x : Int)) = false := decide_eq_false (by omega)
              have y2 : ¬ (1 : Int) < (x : Int) := by omega
              have k0 : ((k : Int) == 0) = false := beq_eq_false_iff_ne.2 (by omega)
              have HK9 := Lib.hid hk9
              clear hk9 c9 hx128
              by_cases hx0 : 0 < x
              · rw [if_pos (Or.inl hx0)] at HE
                have y5 : decide ((0 : Int) < (x : Int)) = true := decide_eq_true (by omega)
                go_wp2_with fail
                try simp only [Exit.noGoto]
                go_ret2
                exact ⟨by rw [← HE.out]; exact congrArg (fun z => Ending.returned (.tuple #[.int .u64 z, .int .i64 ((k + 1 : Nat) : Int)])) HOR.out.1, rfl⟩
              · rw [if_neg (by have := HK9.out; omega)] at HE
                have y5 : decide ((0 : Int) < (x : Int)) = false := decide_eq_false (by omega)
                go_wp2_with fail
                try simp only [Exit.noGoto]
                go_ret2
                exact ⟨by rw [← HE.out]; exact congrArg (fun z => Ending.returned (.tuple #[.int .u64 z, .int .i64 ((0 : Nat) : Int)])) HOR.out.1, rfl⟩
            · have z9 : ((k : Int) == 9) = false := beq_eq_false_iff_ne.2 (by omega)
              have HK9 := Lib.hid hk9
              clear hk9 c9 hx128
              by_cases hx0 : 0 < x
              · rw [if_pos (Or.inl hx0)] at HE
                have y5 : decide ((0 : Int) < (x : Int)) = true := decide_eq_true (by omega)
                go_wp2_with fail
                try simp only [Exit.noGoto]
                go_ret2
                exact ⟨by rw [← HE.out]; exact congrArg (fun z => Ending.returned (.tuple #[.int .u64 z, .int .i64 ((k + 1 : Nat) : Int)])) HOR.out.1, rfl⟩
              · have y5 : decide ((0 : Int) < (x : Int)) = false := decide_eq_false (by omega)
                by_cases hk00 : k = 0
                · rw [if_pos (Or.inr hk00)] at HE
                  have k0 : ((k : Int) == 0) = true := beq_iff_eq.2 (by omega)
                  have HK0 := Lib.hid hk00
                  clear hk00
                  go_wp2_with fail
                  try simp only [Exit.noGoto]
                  go_ret2
                  exact ⟨by rw [← HE.out]; exact congrArg (fun z => Ending.returned (.tuple #[.int .u64 z, .int .i64 ((k + 1 : Nat) : Int)])) HOR.out.1, rfl⟩
                · rw [if_neg (by omega)] at HE
                  have k0 : ((k : Int) == 0) = false := beq_eq_false_iff_ne.2 (by omega)
                  clear hk00
                  go_wp2_with fail
                  try simp only [Exit.noGoto]
                  go_ret2
                  exact ⟨by rw [← HE.out]; exact congrArg (fun z => Ending.returned (.tuple #[.int .u64 z, .int .i64 ((0 : Nat) : Int)])) HOR.out.1, rfl⟩
          · have HN2 : Hid (num (s.drop (k + 1)) (k + 1) (acc + x % 128 * 2 ^ (7 * k)) = R) := Lib.hid (by rw [← HK.out, num_step hkl (by omega) (by rw [HX.out]; exact c9) (by rw [HX.out]; exact hx128), HX.out])
            have z9 : ((k : Int) == 9) = false := beq_eq_false_iff_ne.2 (by omega)
            have y3 : decide ((x : Int) < 128) = false := decide_eq_false (by omega)
            have y4 : ¬ (x : Int) < 128 := by omega
            clear c9 hx128
            go_wp2_with fail
            go_roundw
            case rel => exact ⟨k + 1, acc + x % 128 * 2 ^ (7 * k), by omega, by go_num, congrArg (Value.int .u64) HOR.out.1, rfl, HOR.out.2.1, HN2, trivial⟩
            case measure => simp [intOf]; omega
      · obtain rfl : k = s.length := by omega
        have HE := Lib.hid ((num_stop (s := s) (i := s.length) (acc := acc) (by have := HN.out; omega) (by omega)).symm.trans HK.out)
        go_wp2_with fail
        try simp only [Exit.noGoto]
        go_ret2
        exact ⟨by rw [← HE.out]; rfl, rfl⟩

theorem num_size_le {s : List UInt8} : (num s 0 0).2 ≤ s.length := by
  by_cases h : 0 < (num s 0 0).2
  · obtain ⟨m, t, _, h2, h3, _⟩ := num_enc s 0 0 _ _ rfl h (by omega)
    have := congrArg List.length h2
    rw [List.length_append] at this
    omega
  · omega
theorem num_size_10 (s : List UInt8) : ∀ i acc, i ≤ 10 → (num s i acc).2 ≤ 10 := by
  induction s with
  | nil => intro i acc _; simp [num]
  | cons b t ih =>
    intro i acc hi
    unfold num
    by_cases h : i = 10
    · rw [if_pos h]; simp
    · rw [if_neg h]
      split
      · simp
      · split
        · simp only; split <;> omega
        · exact ih _ _ (by omega)
theorem num_lt (s : List UInt8) : ∀ i acc, i ≤ 9 → acc < 2 ^ (7 * i) → (num s i acc).1 < 18446744073709551616 := by
  induction s with
  | nil =>
    intro i acc hi h
    have : (2 : Nat) ^ (7 * i) ≤ 2 ^ 63 := Nat.pow_le_pow_right (by omega) (by omega)
    have e : (2 : Nat) ^ 63 = 9223372036854775808 := by decide
    simp only [num]
    omega
  | cons b t ih =>
    intro i acc hi h
    have hle : (2 : Nat) ^ (7 * i) ≤ 2 ^ 63 := Nat.pow_le_pow_right (by omega) (by omega)
    have e : (2 : Nat) ^ 63 = 9223372036854775808 := by decide
    unfold num
    rw [if_neg (by omega)]
    split
    · simp only; omega
    · rename_i h9
      have ho := or_expr acc b.toNat i h b.toNat_lt (by omega) (fun e => by omega)
      split
      · exact ho.2.2
      · rename_i hb
        have hi9 : i ≠ 9 := fun e => by omega
        exact ih _ _ (by omega) ho.2.1
theorem rnum_tk (s : List UInt8) (most : Nat) : rnum (some s) most = (if (tk (some s) (num s 0 0).2 (decide (0 < (num s 0 0).2) && decide ((num s 0 0).1 ≤ most))).2.1 then (num s 0 0).1 else 0, (tk (some s) (num s 0 0).2 (decide (0 < (num s 0 0).2) && decide ((num s 0 0).1 ≤ most))).2.2) := by
  have hsz := num_size_le (s := s)
  unfold rnum tk
  by_cases h : 0 < (num s 0 0).2 ∧ (num s 0 0).1 ≤ most
  · simp [h, hsz]
  · have hd : (decide (0 < (num s 0 0).2) && decide ((num s 0 0).1 ≤ most)) = false := by
      rw [Bool.and_eq_false_iff]
      by_cases h1 : 0 < (num s 0 0).2
      · right; exact decide_eq_false fun h2 => h ⟨h1, h2⟩
      · left; exact decide_eq_false h1
    simp only [hd]
    rw [if_neg h]
    simp
end Go.Proofs.YtjiaoppefinljaaGreatDoor.Pk

/- Contracts of a reader: numbers and texts. -/
namespace Go.Proofs.YtjiaoppefinljaaGreatDoor.Pk
open Go.RowKit
set_option maxRecDepth 100000

set_option maxHeartbeats 4000000 in
theorem Num_any (b : Nat) (r : Rd) (most : Nat) (w : World) (h : RdAt w b r) (hs : ∀ s, r = some s → s.length ≤ maxLen) :
    Calls Tryz.prog 13 #[.pointer (some ⟨b, 0, none⟩), .int .u64 (most : Int)] w fun e w' => e = .returned (.int .u64 ((rnum r most).1 : Nat)) ∧ RdAt w' b (rnum r most).2 ∧ Keep [b] w w' := by
  have hrest := Rest_any b r w h
  have hsl : (r.getD []).length ≤ maxLen := by
    cases r with
    | none => simp
    | some s => exact hs s rfl
  have hnum := number_any (r.getD []) hsl w
  have hsz := num_size_10 (r.getD []) 0 0 (by omega)
  have hnl := num_lt (r.getD []) 0 0 (by omega) (by simp)
  have htake := take_any b r (num (r.getD []) 0 0).2 (decide (0 < (num (r.getD []) 0 0).2) && decide ((num (r.getD []) 0 0).1 ≤ most)) w h hs
  have HQ : Hid (rnum r most = (if (tk r (num (r.getD []) 0 0).2 (decide (0 < (num (r.getD []) 0 0).2) && decide ((num (r.getD []) 0 0).1 ≤ most))).2.1 then (num (r.getD []) 0 0).1 else 0, (tk r (num (r.getD []) 0 0).2 (decide (0 < (num (r.getD []) 0 0).2) && decide ((num (r.getD []) 0 0).1 ≤ most))).2.2)) := Lib.hid (by
    cases r with
    | none => rfl
    | some s => exact rnum_tk s most)
  generalize r.getD [] = s at *
  generalize (num s 0 0).2 = sz at *
  generalize (num s 0 0).1 = n at *
  generalize tk r sz (decide (0 < sz) && decide (n ≤ most)) = T at *
  obtain ⟨T1, T2, T3⟩ := T
  simp only at htake HQ
  have hgo : ∀ W : World, W = w → Calls Tryz.prog 33 #[.pointer (some ⟨b, 0, none⟩), .int .u64 (sz : Int), .bool (decide (0 < sz) && decide (n ≤ most))] W fun e w' => e = .returned (.tuple #[.string (bs T1), .bool T2]) ∧ RdAt w' b T3 ∧ Keep [b] w w' := fun W e => by subst e; exact htake
  clear htake
  by_cases h1 : 0 < sz
  · by_cases h2 : n ≤ most
    · have y1 : (0 : Int) < (sz : Int) := by omega
      have y2 : (n : Int) ≤ (most : Int) := by omega
      have d1 : decide (0 < sz) = true := decide_eq_true h1
      have d2 : decide (n ≤ most) = true := decide_eq_true h2
      rw [d1, d2, Bool.and_true] at hgo
      clear h1 h2 d1 d2
      cases T2
      · have HQ2 : Hid (rnum r most = (0, T3)) := Lib.hid HQ.out
        go_enter Tryz.func13, Tryz.ntmps13
        go_wp2_with fail
        go_at_call 32
        refine hrest.mono ?_
        rintro e w1 ⟨rfl, hw1⟩
        subst hw1
        go_wp2_with fail
        go_at_call 31
        refine hnum.mono ?_
        rintro e w2 ⟨rfl, hw2⟩
        subst hw2
        go_wp2_with fail
        go_at_call 33
        have hh := hgo w2 rfl
        refine hh.mono ?_
        rintro e w3 ⟨rfl, hr3, hk3⟩
        go_wp2_with fail
        go_ret
        refine ⟨?_, ?_, hk3⟩
        · show Ending.returned (.int .u64 0) = _
          rw [HQ2.out]
          try rfl
        · rw [HQ2.out]
          exact hr3
      · have HQ2 : Hid (rnum r most = (n, T3)) := Lib.hid HQ.out
        go_enter Tryz.func13, Tryz.ntmps13
        go_wp2_with fail
        go_at_call 32
        refine hrest.mono ?_
        rintro e w1 ⟨rfl, hw1⟩
        subst hw1
        go_wp2_with fail
        go_at_call 31
        refine hnum.mono ?_
        rintro e w2 ⟨rfl, hw2⟩
        subst hw2
        go_wp2_with fail
        go_at_call 33
        have hh := hgo w2 rfl
        refine hh.mono ?_
        rintro e w3 ⟨rfl, hr3, hk3⟩
        go_wp2_with fail
        go_ret
        refine ⟨?_, ?_, hk3⟩
        · show Ending.returned (.int .u64 (n : Int)) = _
          rw [HQ2.out]
          try rfl
        · rw [HQ2.out]
          exact hr3
    · have y1 : (0 : Int) < (sz : Int) := by omega
      have y2 : ¬ (n : Int) ≤ (most : Int) := by omega
      have d1 : decide (0 < sz) = true := decide_eq_true h1
      have d2 : decide (n ≤ most) = false := decide_eq_false h2
      rw [d1, d2, Bool.and_false] at hgo
      have y3 : decide ((n : Int) ≤ (most : Int)) = false := decide_eq_false y2
      clear h1 h2 d1
      cases T2
      · have HQ2 : Hid (rnum r most = (0, T3)) := Lib.hid HQ.out
        go_enter Tryz.func13, Tryz.ntmps13
        go_wp2_with fail
        go_at_call 32
        refine hrest.mono ?_
        rintro e w1 ⟨rfl, hw1⟩
        subst hw1
        go_wp2_with fail
        go_at_call 31
        refine hnum.mono ?_
        rintro e w2 ⟨rfl, hw2⟩
        subst hw2
        go_wp2_with fail
        go_at_call 33
        have hh := hgo w2 rfl
        refine hh.mono ?_
        rintro e w3 ⟨rfl, hr3, hk3⟩
        go_wp2_with fail
        go_ret
        refine ⟨?_, ?_, hk3⟩
        · show Ending.returned (.int .u64 0) = _
          rw [HQ2.out]
          try rfl
        · rw [HQ2.out]
          exact hr3
      · have HQ2 : Hid (rnum r most = (n, T3)) := Lib.hid HQ.out
        go_enter Tryz.func13, Tryz.ntmps13
        go_wp2_with fail
        go_at_call 32
        refine hrest.mono ?_
        rintro e w1 ⟨rfl, hw1⟩
        subst hw1
        go_wp2_with fail
        go_at_call 31
        refine hnum.mono ?_
        rintro e w2 ⟨rfl, hw2⟩
        subst hw2
        go_wp2_with fail
        go_at_call 33
        have hh := hgo w2 rfl
        refine hh.mono ?_
        rintro e w3 ⟨rfl, hr3, hk3⟩
        go_wp2_with fail
        go_ret
        refine ⟨?_, ?_, hk3⟩
        · show Ending.returned (.int .u64 (n : Int)) = _
          rw [HQ2.out]
          try rfl
        · rw [HQ2.out]
          exact hr3
  · obtain rfl : sz = 0 := by omega
    have d1 : decide (0 < 0) = false := rfl
    rw [d1, Bool.false_and, show ((0 : Nat) : Int) = 0 from rfl] at hgo
    rw [show ((0 : Nat) : Int) = 0 from rfl] at hnum
    clear h1 d1
    cases T2
    · have HQ2 : Hid (rnum r most = (0, T3)) := Lib.hid HQ.out
      go_enter Tryz.func13, Tryz.ntmps13
      go_wp2_with fail
      go_at_call 32
      refine hrest.mono ?_
      rintro e w1 ⟨rfl, hw1⟩
      subst hw1
      go_wp2_with fail
      go_at_call 31
      refine hnum.mono ?_
      rintro e w2 ⟨rfl, hw2⟩
      subst hw2
      go_wp2_with fail
      go_at_call 33
      have hh := hgo w2 rfl
      refine hh.mono ?_
      rintro e w3 ⟨rfl, hr3, hk3⟩
      go_wp2_with fail
      go_ret
      refine ⟨?_, ?_, hk3⟩
      · show Ending.returned (.int .u64 0) = _
        rw [HQ2.out]
        try rfl
      · rw [HQ2.out]
        exact hr3
    · have HQ2 : Hid (rnum r most = (n, T3)) := Lib.hid HQ.out
      go_enter Tryz.func13, Tryz.ntmps13
      go_wp2_with fail
      go_at_call 32
      refine hrest.mono ?_
      rintro e w1 ⟨rfl, hw1⟩
      subst hw1
      go_wp2_with fail
      go_at_call 31
      refine hnum.mono ?_
      rintro e w2 ⟨rfl, hw2⟩
      subst hw2
      go_wp2_with fail
      go_at_call 33
      have hh := hgo w2 rfl
      refine hh.mono ?_
      rintro e w3 ⟨rfl, hr3, hk3⟩
      go_wp2_with fail
      go_ret
      refine ⟨?_, ?_, hk3⟩
      · show Ending.returned (.int .u64 (n : Int)) = _
        rw [HQ2.out]
        try rfl
      · rw [HQ2.out]
        exact hr3
end Go.Proofs.YtjiaoppefinljaaGreatDoor.Pk

/- Contracts of a reader: texts. -/
namespace Go.Proofs.YtjiaoppefinljaaGreatDoor.Pk
open Go.RowKit
set_option maxRecDepth 100000

/-- a reader's text is short -/
def Short (r : Rd) : Prop := ∀ s, r = some s → s.length ≤ maxLen
theorem Short.rnum {r : Rd} (h : Short r) (most : Nat) : Short (rnum r most).2 := by
  intro s hs
  obtain ⟨h1, _⟩ := rnum_some (r := r) (most := most) (n := (Pk.rnum r most).1) (t := s) (by rw [← hs])
  have := h _ h1
  rw [List.length_append] at this
  omega
theorem rtext_tk (r : Rd) (most : Nat) : rtext r most = ((tk (rnum r most).2 (rnum r most).1 true).1, (tk (rnum r most).2 (rnum r most).1 true).2.2) := by
  unfold rtext tk
  cases (rnum r most).2 with
  | none => rfl
  | some s =>
    simp only [true_and]
    split <;> rfl
theorem Short.rtext {r : Rd} (h : Short r) (most : Nat) : Short (rtext r most).2 := by
  intro s hs
  obtain ⟨h1, _⟩ := rtext_some (r := r) (most := most) (s := (Pk.rtext r most).1) (t := s) (by rw [← hs])
  have := h _ h1
  rw [List.length_append] at this
  omega
set_option maxHeartbeats 4000000 in
theorem Text_any (b : Nat) (r : Rd) (most : Nat) (hm : most ≤ 1099511627776) (w : World) (h : RdAt w b r) (hs : Short r) :
    Calls Tryz.prog 14 #[.pointer (some ⟨b, 0, none⟩), .int .i64 (most : Int)] w fun e w' => e = .returned (.string (bs (rtext r most).1)) ∧ RdAt w' b (rtext r most).2 ∧ Keep [b] w w' := by
  have hnum := Num_any b r most w h hs
  have hs2 := hs.rnum most
  have HQ := Lib.hid (rtext_tk r most)
  have hgo := fun W hW => take_any b (rnum r most).2 (rnum r most).1 true W hW hs2
  generalize rtext r most = R at *
  generalize (rnum r most).1 = n at *
  generalize (rnum r most).2 = r2 at *
  generalize tk r2 n true = T at *
  obtain ⟨T1, T2, T3⟩ := T
  simp only at hgo HQ
  have y1 : ¬ (most : Int) < 0 := by omega
  have y2 : decide ((0 : Int) ≤ (most : Int)) = true := decide_eq_true (by omega)
  have y3 : (0 : Int) ≤ (most : Int) := by omega
  by_cases h0 : 0 < most
  · have y4 : (0 : Int) < (most : Int) := by omega
    go_enter Tryz.func14, Tryz.ntmps14
    go_wp2_with fail
    go_at_call 13
    refine hnum.mono ?_
    rintro e w1 ⟨rfl, hr1, hk1⟩
    go_wp2_with fail
    go_at_call 33
    have hh := hgo w1 hr1
    refine hh.mono ?_
    rintro e w2 ⟨rfl, hr2, hk2⟩
    go_wp2_with fail
    go_ret
    refine ⟨?_, ?_, hk1.trans hk2⟩
    · show Ending.returned (.string (bs T1)) = _
      rw [HQ.out]
    · rw [HQ.out]
      exact hr2
  · obtain rfl : most = 0 := by omega
    rw [show ((0 : Nat) : Int) = 0 from rfl] at hnum
    go_enter Tryz.func14, Tryz.ntmps14
    go_wp2_with fail
    go_at_call 13
    refine hnum.mono ?_
    rintro e w1 ⟨rfl, hr1, hk1⟩
    go_wp2_with fail
    go_at_call 33
    have hh := hgo w1 hr1
    refine hh.mono ?_
    rintro e w2 ⟨rfl, hr2, hk2⟩
    go_wp2_with fail
    go_ret
    refine ⟨?_, ?_, hk1.trans hk2⟩
    · show Ending.returned (.string (bs T1)) = _
      rw [HQ.out]
    · rw [HQ.out]
      exact hr2
end Go.Proofs.YtjiaoppefinljaaGreatDoor.Pk
