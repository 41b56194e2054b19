/- Contracts of a writer of numbers and texts: its buffer. -/
import Derived.Test.YtjiaoppefinljaaGreatDoorJc
import Derived.Lib.FrozenHead2
import Derived.Lib.OthersKept
import Derived.Lib.AppendIntMem
import Derived.Laws.Externs
set_option linter.unusedVariables false
set_option linter.unusedSimpArgs false
set_option linter.unusedSectionVars false
namespace Go.Proofs.YtjiaoppefinljaaGreatDoor.Pk
open Go.RowKit
set_option maxRecDepth 100000

/-- a writer at block b that has written l -/
def WrAt (W : World) (B b : Nat) (l : List UInt8) : Prop := Lib.IsBuilderF 58 5 B b (Lib.byteCells l) W
/-- what a writing call may turn -/
structure Wrote (B b : Nat) (w w' : World) : Prop where
  below : Below B w w'
  kept : Lib.OthersKept 5 (some b) w w'
theorem Wrote.refl (B b : Nat) (w : World) : Wrote B b w w := ⟨Below.refl B w, Lib.OthersKept.refl _ _ w⟩
theorem Wrote.trans {B b : Nat} {x y z : World} (h1 : Wrote B b x y) (h2 : Wrote B b y z) : Wrote B b x z := ⟨h1.below.trans h2.below, h1.kept.trans h2.kept⟩
theorem Wrote.size {B b : Nat} {x y : World} (h : Wrote B b x y) : x.heap.size ≤ y.heap.size := h.below.size

theorem size54 : (Tryz.prog.info? 54).map (·.size) = some 2 := by kernel_rfl
theorem lies54 : liesAt Tryz.prog Tryz.prog.depth 58 (2 / Tryz.prog.cellsOf 58) 0 54 1 = true := by kernel_rfl
theorem info5 : (Tryz.prog.info? 5).map (fun i => (i.zero, i.size, i.bytes)) = some (some (.int .u8 0), 1, 1) := by kernel_rfl
theorem info5_parts : ∃ i0, Tryz.prog.info? 5 = some i0 ∧ i0.zero = some (.int .u8 0) ∧ i0.size = 1 ∧ i0.bytes = 1 := by
  have h := info5
  cases hi : Tryz.prog.info? 5 with
  | none => rw [hi] at h; cases h
  | some i0 =>
    rw [hi] at h
    simp only [Option.map_some, Option.some.injEq, Prod.mk.injEq] at h
    exact ⟨i0, rfl, h.1, h.2.1, h.2.2⟩

set_option maxHeartbeats 1000000 in
theorem copyCheck_fresh (b : Nat) (w : World) (h0 : w.cell? ⟨b, 0, none⟩ = some (.pointer none)) (hsh : w.shape? b = some (58, 2)) (hfz : w.frozen? ⟨b, 0, none⟩ = false) :
    Calls Tryz.prog 59 #[.pointer (some ⟨b, 0, none⟩)] w fun e w' => e = .returned (.tuple #[]) ∧ w' = w.setCell ⟨b, 0, none⟩ (.pointer (some ⟨b, 0, none⟩)) := by
  obtain ⟨j, hj, hjs⟩ := Option.map_eq_some_iff.1 size54
  go_enter Tryz.func59, Tryz.ntmps59
  go_wp2
  rw [Lib.run_to_unsafe w ⟨b, 0, none⟩ Tryz.underlying51 Tryz.underlying182 hj (by rw [hjs]; decide) hsh (Nat.zero_lt_succ 1)]
  simp only [Result.andThen]
  rw [Oper.upon_value]
  go_wp2
  rw [run_callFunc_extern Tryz.func71 (by kernel_rfl) (by kernel_rfl) (by kernel_rfl) (e := Extern.AbiNoEscape.same) (by kernel_rfl)]
  rw [Lib.run_noEscape]
  simp only [Result.andThen]
  rw [Oper.upon_value]
  go_wp2
  rw [Lib.run_from_unsafe w ⟨b, 0, none⟩ Tryz.underlying182 Tryz.underlying51 hj hsh lies54]
  simp only [Result.andThen]
  rw [Oper.upon_value]
  go_wp2
  go_end0
  exact ⟨rfl, rfl⟩
set_option maxHeartbeats 1000000 in
theorem copyCheck_used (b : Nat) (w : World) (h0 : w.cell? ⟨b, 0, none⟩ = some (.pointer (some ⟨b, 0, none⟩))) :
    Calls Tryz.prog 59 #[.pointer (some ⟨b, 0, none⟩)] w fun e w' => e = .returned (.tuple #[]) ∧ w' = w := by
  obtain ⟨j, hj, _⟩ := Option.map_eq_some_iff.1 size54
  go_enter Tryz.func59, Tryz.ntmps59
  go_wp2
  rw [Lib.run_neq_ptr_same w _ Tryz.underlying51 hj]
  go_wp2
  go_end0
  exact ⟨rfl, rfl⟩
theorem copyCheck_any (B b : Nat) (bs : List Value) (w : World) (h : Lib.IsBuilderF 58 5 B b bs w) :
    Calls Tryz.prog 59 #[.pointer (some ⟨b, 0, none⟩)] w fun e w' => e = .returned (.tuple #[]) ∧ Lib.BuilderAtF 58 5 B b (.pointer (some ⟨b, 0, none⟩)) bs w' ∧ Wrote B b w w' := by
  rcases h with h | h
  · refine (copyCheck_fresh b w h.cell0 h.shape h.frozen0).mono ?_
    rintro e w' ⟨rfl, rfl⟩
    exact ⟨rfl, h.used _, (Below.refl B w).setCell (p := ⟨b, 0, none⟩) h.1 _, (Lib.OthersKept.refl _ _ w).setCell ⟨b, 0, none⟩ rfl _⟩
  · refine (copyCheck_used b w h.cell0).mono ?_
    rintro e w' ⟨rfl, rfl⟩
    exact ⟨rfl, h, Wrote.refl _ _ _⟩

set_option maxHeartbeats 2000000 in
theorem WriteByte_any (B b : Nat) (bs : List Value) (c : Int) (w : World) (h : Lib.IsBuilderF 58 5 B b bs w) (hlen : bs.length + 1 ≤ 140737488355328) (hBw : B ≤ w.heap.size) :
    Calls Tryz.prog 49 #[.pointer (some ⟨b, 0, none⟩), .int .u8 c] w fun e w' => e = .returned .nilIface ∧ Lib.IsBuilderF 58 5 B b (bs ++ [.int .u8 c]) w' ∧ Wrote B b w w' := by
  obtain ⟨i0, hi, hz0, hz1, hz2⟩ := info5_parts
  have hcc := copyCheck_any B b bs w h
  go_enter Tryz.func49, Tryz.ntmps49
  go_wp2_with fail
  go_at_call 59
  refine hcc.mono ?_
  rintro e w1 ⟨rfl, h1, hb1, hk1⟩
  obtain ⟨hB, v, hbk, hown, hne⟩ := h1
  have c0 : w1.cell? ⟨b, 0, none⟩ = some (.pointer (some ⟨b, 0, none⟩)) := by rw [Lib.cell_of_heap hbk]; rfl
  have c1 : w1.cell? ⟨b, 1, none⟩ = some v := by rw [Lib.cell_of_heap hbk]; rfl
  go_wp2_with (at_builtin; refine wpList_append_ownF _ rfl _ _ 52 rfl B 5 i0 (.int .u8 0) 1 1 Tryz.underlying52 hi hz0 hz1 hz2 rfl (by decide) _ _ _ rfl (hown.alloc _) ⟨w1.heap.size, 0, none⟩ 1 1 [.int .u8 c] rfl rfl ?c1 ?c2 ?c3 ?c4 ?c5 ?_)
  case c1 =>
    intro j u hj
    match j, hj with
    | 0, hj => simp at hj; subst hj; simp [Addr.add]
  case c2 => intro u hu; simp at hu; subst hu; rfl
  case c3 => unfold maxLen; omega
  case c4 => omega
  case c5 => have := hb1.size; simp; omega
  intro v' w2 hown' hgrow _
  have hlt : b < w1.heap.size := by
    rcases Nat.lt_or_ge b w1.heap.size with h' | h'
    · exact h'
    · simp [Array.getElem?_eq_none h'] at hbk
  have hb2 : w2.heap[b]? = some (.cells #[.pointer (some ⟨b, 0, none⟩), v] 58 (0, 0)) := by
    rw [hgrow.block b (by simp; omega) (fun e => hne e.symm), Lib.alloc_old w1 _ b hlt]
    exact hbk
  have d0 : w2.cell? ⟨b, 0, none⟩ = some (.pointer (some ⟨b, 0, none⟩)) := by rw [Lib.cell_of_heap hb2]; rfl
  have d1 : w2.cell? ⟨b, 1, none⟩ = some v := by rw [Lib.cell_of_heap hb2]; rfl
  have f1 : w2.frozen? ⟨b, 1, none⟩ = false := Lib.frozen_of_heap hb2 1
  obtain ⟨g, cap, rfl⟩ : ∃ g cap, v' = .slice (some ⟨g, 0, none⟩) (bs.length + 1) cap := by
    rcases hown'.2 with ⟨_, h0⟩ | ⟨g, cap, cur, fz, hv, _⟩
    · omega
    · exact ⟨g, cap, hv⟩
  go_wp2_with fail
  go_ret
  refine ⟨rfl, ?_, ?_, ((hk1.alloc _).grown hgrow (Lib.ownsRowF_kind (hown.alloc _))).setCell ⟨b, 1, none⟩ rfl _⟩
  · exact .inr (Lib.BuilderAtF.put (T := 58) (e := 5) hB hb2 (bs' := bs ++ [.int .u8 c]) (by simpa using hown') (by decide))
  · exact ((hb1.alloc (by have := hb1.size; omega) _).grown hgrow (by have := hb1.size; simp; omega) (fun k hk => (hown.lt k hk).1)).setCell (p := ⟨b, 1, none⟩) hB _

set_option maxHeartbeats 2000000 in
theorem WriteString_any (B b : Nat) (l s : List UInt8) (w : World) (h : WrAt w B b l) (hlen : l.length + s.length ≤ 140737488355328) (hBw : B ≤ w.heap.size) :
    Calls Tryz.prog 50 #[.pointer (some ⟨b, 0, none⟩), .string (bs s)] w fun e w' => e = .returned (.tuple #[.int .i64 s.length, .nilIface]) ∧ WrAt w' B b (l ++ s) ∧ Wrote B b w w' := by
  obtain ⟨i0, hi, hz0, hz1, hz2⟩ := info5_parts
  have hsz : (bs s).size = s.length := rfl
  have hll : (Lib.byteCells l).length = l.length := Lib.byteCells_length l
  have hcc := copyCheck_any B b _ w h
  go_enter Tryz.func50, Tryz.ntmps50
  go_wp2_with fail
  go_at_call 59
  refine hcc.mono ?_
  rintro e w1 ⟨rfl, h1, hb1, hk1⟩
  obtain ⟨hB, v, hbk, hown, hne⟩ := h1
  have c0 : w1.cell? ⟨b, 0, none⟩ = some (.pointer (some ⟨b, 0, none⟩)) := by rw [Lib.cell_of_heap hbk]; rfl
  have c1 : w1.cell? ⟨b, 1, none⟩ = some v := by rw [Lib.cell_of_heap hbk]; rfl
  go_wp2_with (at_builtin; refine Lib.wpList_append_own_stringF _ rfl _ _ 52 9 rfl B 5 i0 Tryz.underlying52 Tryz.underlying9 hi hz0 hz1 hz2 _ _ _ rfl hown (bs s) rfl ?c3 ?c4 ?c5 ?_)
  case c3 => unfold maxLen; rw [hll, hsz]; omega
  case c4 => rw [hll, hsz]; omega
  case c5 => have := hb1.size; omega
  intro v' w2 hown' hgrow _
  have hlt : b < w1.heap.size := by
    rcases Nat.lt_or_ge b w1.heap.size with h' | h'
    · exact h'
    · simp [Array.getElem?_eq_none h'] at hbk
  have hb2 : w2.heap[b]? = some (.cells #[.pointer (some ⟨b, 0, none⟩), v] 58 (0, 0)) := by
    rw [hgrow.block b hlt (fun e => hne e.symm)]
    exact hbk
  have d0 : w2.cell? ⟨b, 0, none⟩ = some (.pointer (some ⟨b, 0, none⟩)) := by rw [Lib.cell_of_heap hb2]; rfl
  have d1 : w2.cell? ⟨b, 1, none⟩ = some v := by rw [Lib.cell_of_heap hb2]; rfl
  have f1 : w2.frozen? ⟨b, 1, none⟩ = false := Lib.frozen_of_heap hb2 1
  obtain ⟨ao, n', cap, rfl⟩ : ∃ ao n' cap, v' = .slice ao n' cap := by
    rcases hown'.2 with ⟨hv, _⟩ | ⟨g, cap, cur, fz, hv, _⟩
    · exact ⟨_, _, _, hv⟩
    · exact ⟨_, _, _, hv⟩
  go_wp2_with fail
  go_ret2
  have hcells : Lib.byteCells (l ++ s) = Lib.byteCells l ++ Lib.strCells (bs s) := Lib.byteCells_append l s
  refine ⟨rfl, ?_, ?_, (hk1.grown hgrow (Lib.ownsRowF_kind hown)).setCell ⟨b, 1, none⟩ rfl _⟩
  · unfold WrAt
    rw [hcells]
    exact .inr (Lib.BuilderAtF.put (T := 58) (e := 5) hB hb2 (bs' := Lib.byteCells l ++ Lib.strCells (bs s)) (by rw [List.length_append, Lib.strCells_length, hll, hsz]; exact hown') (by decide))
  · exact (hb1.grown hgrow (by have := hb1.size; omega) (fun k hk => (hown.lt k hk).1)).setCell (p := ⟨b, 1, none⟩) hB _

theorem cells5 : Tryz.prog.cellsOf 5 = 1 := by kernel_rfl
set_option maxHeartbeats 2000000 in
theorem BuilderString_any (B b : Nat) (l : List UInt8) (w : World) (h : WrAt w B b l) (h0 : l ≠ []) :
    Calls Tryz.prog 39 #[.pointer (some ⟨b, 0, none⟩)] w fun e w' => e = .returned (.string (bs l)) ∧ Wrote B b w w' := by
  obtain ⟨p, hp, hAt⟩ : ∃ p, (p = .pointer none ∨ p = .pointer (some ⟨b, 0, none⟩)) ∧ Lib.BuilderAtF 58 5 B b p (Lib.byteCells l) w := by
    rcases h with h | h
    · exact ⟨_, .inl rfl, h⟩
    · exact ⟨_, .inr rfl, h⟩
  obtain ⟨hB, v, hbk, hown, hne⟩ := hAt
  have hl0 : l.length ≠ 0 := by simpa using h0
  rw [Lib.byteCells_length] at hown
  obtain ⟨g, cap, cur, fz, rfl, hbg, hg, hfz, hnc, hcm, hcs, htake⟩ : ∃ g cap cur fz, v = .slice (some ⟨g, 0, none⟩) l.length cap ∧ B ≤ g ∧ w.heap[g]? = some (.cells cur 5 fz) ∧ fz.2 ≤ l.length * 1 ∧ l.length ≤ cap ∧ cap ≤ maxLen ∧ cur.size = cap * 1 ∧ cur.toList.take (l.length * 1) = Lib.byteCells l := by
    rcases hown.2 with ⟨_, hz⟩ | ⟨g, cap, cur, fz, hv, r⟩
    · exact absurd hz hl0
    · exact ⟨g, cap, cur, fz, hv, r⟩
  have c1 : w.drew.cell? ⟨b, 1, none⟩ = some (.slice (some ⟨g, 0, none⟩) l.length cap) := by
    have : w.drew.heap[b]? = some (.cells #[p, .slice (some ⟨g, 0, none⟩) l.length cap] 58 (0, 0)) := hbk
    rw [Lib.cell_of_heap this]; rfl
  have hSD : (Builtin.unsafeSliceData_ #[52] 134 #[.slice (some ⟨g, 0, none⟩) l.length cap]).run Tryz.prog w.drew = .ok (.pointer (some ⟨g, 0, none⟩)) w.drew :=
    Lib.run_unsafeSliceData_row _ _ _ _ _ _ (by omega)
  have hUS : (Builtin.unsafeString_ #[134, 3] 9 #[.pointer (some ⟨g, 0, none⟩), .int .i64 l.length]).run Tryz.prog w.drew = .ok (.string ⟨l.toArray⟩) (w.drew.freeze ⟨g, 0, none⟩ l.length) := by
    refine Lib.run_unsafeString_row w.drew 134 3 9 5 Tryz.underlying134 cells5 g cur.size (by have hg' : w.drew.heap[g]? = some (.cells cur 5 fz) := hg; simp [World.shape?, hg']) l h0 (by omega) (by unfold maxLen at hcm; omega) ?_
    intro j x hx
    have := hown.cells (g := g) rfl j (.int .u8 x.toNat) (by simp [Lib.byteCells, hx])
    exact this
  have hfin : Wrote B b w (w.drew.freeze ⟨g, 0, none⟩ l.length) := ⟨Lib.below_freeze (Below.drew (Below.refl B w)) (p := ⟨g, 0, none⟩) hbg _, ((Lib.OthersKept.refl _ _ w).drew).freeze ⟨g, 0, none⟩ _ ⟨cur, fz, hg⟩⟩
  clear h hown hg htake hfz hne hbk hp
  go_enter Tryz.func39, Tryz.ntmps39
  go_wp2
  go_region
  all_goals (go_wp2; go_ret; exact ⟨rfl, hfin⟩)
end Go.Proofs.YtjiaoppefinljaaGreatDoor.Pk

/- Contracts of a writer of numbers and texts. -/
namespace Go.Proofs.YtjiaoppefinljaaGreatDoor.Pk
open Go.RowKit
set_option maxRecDepth 100000

theorem enc_len : ∀ (k n : Nat), n < 128 ^ (k + 1) → (enc n).length ≤ k + 1 := by
  intro k
  induction k with
  | zero => intro n h; rw [enc_low (by simpa using h)]; simp
  | succ k ih =>
    intro n h
    by_cases hn : n < 128
    · rw [enc_low hn]; simp
    · rw [enc_high hn]
      have : (enc (n / 128)).length ≤ k + 1 := ih _ (by rw [Nat.pow_succ] at h; omega)
      simp only [List.length_cons]
      omega
theorem enc_len10 {n : Nat} (h : n < 2 ^ 64) : (enc n).length ≤ 10 := enc_len 9 n (Nat.lt_of_lt_of_le h (by decide))
theorem byteCells_one' (k : Nat) (h : k < 256) : Lib.byteCells [UInt8.ofNat k] = [.int .u8 (k : Int)] := by
  show [Value.int .u8 ((UInt8.ofNat k).toNat : Int)] = _
  rw [toNat_ofNat h]
theorem u64_and127 (n : Nat) : bits .and .u64 (n : Int) 127 = ((n % 128 : Nat) : Int) := by
  have h127 : (BitVec.ofInt 64 127).toNat = 2 ^ 7 - 1 := by decide
  have key : (BitVec.ofInt 64 (n : Int) &&& BitVec.ofInt 64 127).toNat = n % 128 := by
    rw [BitVec.toNat_and, BitVec.toNat_ofInt, h127, Nat.and_two_pow_sub_one_eq_mod]
    omega
  show IntKind.u64.wrap ((BitVec.ofInt 64 (n : Int) &&& BitVec.ofInt 64 127).toNat : Nat) = _
  rw [key]
  show ((n % 128 : Nat) : Int) % (2 : Int) ^ 64 = _
  omega
theorem u64_or128 (m : Nat) (hm : m < 128) : bits .or .u64 (m : Int) 128 = ((m + 128 : Nat) : Int) := by
  have h := u64_or_shift m 1 7 (by omega) (by omega)
  simpa using h
/-- a byte that goes on -/
theorem more_byte (n : Nat) : IntKind.u8.wrap (bits .or .u64 (bits .and .u64 (n : Int) 127) 128) = ((n % 128 + 128 : Nat) : Int) := by
  rw [u64_and127 n, u64_or128 _ (Nat.mod_lt _ (by omega))]
  show ((n % 128 + 128 : Nat) : Int) % (2 : Int) ^ 8 = _
  omega
theorem wr_snoc {w : World} {B b : Nat} {l : List UInt8} {k : Nat} (hk : k < 256) (h : Lib.IsBuilderF 58 5 B b (Lib.byteCells l ++ [.int .u8 (k : Int)]) w) : WrAt w B b (l ++ [UInt8.ofNat k]) := by
  unfold WrAt
  rw [Lib.byteCells_append, byteCells_one' k hk]
  exact h

set_option maxHeartbeats 4000000 in
theorem num37_any (B b : Nat) (l : List UInt8) (n : Nat) (w : World) (h : WrAt w B b l) (hn : n < 18446744073709551616) (hlen : l.length + (enc n).length ≤ 1099511627776) (hBw : B ≤ w.heap.size) :
    Calls Tryz.prog 37 #[.pointer (some ⟨b, 0, none⟩), .int .u64 (n : Int)] w fun e w' => e = .returned (.tuple #[]) ∧ WrAt w' B b (l ++ enc n) ∧ Wrote B b w w' := by
  have hW := Lib.hid h
  have hL := Lib.hid hlen
  have hB := Lib.hid hBw
  clear h hlen hBw
  go_enter Tryz.func37, Tryz.ntmps37
  go_wp2_with fail
  go_loopw [1] (fun v1 wr => ∃ (m : Nat) (l2 : List UInt8), v1 = .int .u64 (m : Int) ∧ m < 18446744073709551616 ∧ Hid (l2 ++ enc m = l ++ enc n) ∧ Hid (WrAt wr B b l2) ∧ Hid (Wrote B b w wr))
    (fun v1 _ => (intOf v1).toNat)
  case atStart => exact ⟨n, l, rfl, hn, Lib.hid rfl, hW, Lib.hid (Wrote.refl _ _ _)⟩
  case round =>
    obtain ⟨m, l2, rfl, hm, HE, HW, HK⟩ := hrel
    have hlen2 : l2.length + (enc m).length ≤ 1099511627776 := by
      have := congrArg List.length HE.out
      have := hL.out
      simp only [List.length_append] at *
      omega
    have hpos := enc_pos m
    by_cases hlt : m < 128
    · have z1 : decide ((128 : Int) ≤ (m : Int)) = false := decide_eq_false (by omega)
      have z2 : ¬ (128 : Int) ≤ (m : Int) := by omega
      have z3 : IntKind.u8.wrap (m : Int) = (m : Int) := by show (m : Int) % (2 : Int) ^ 8 = m; omega
      have hcall := WriteByte_any B b (Lib.byteCells l2) (m : Int) wr HW.out (by rw [Lib.byteCells_length]; omega) (Nat.le_trans hB.out HK.out.size)
      go_wp2_with fail
      go_at_call 49
      refine hcall.mono ?_
      rintro e w2 ⟨rfl, h2, k2⟩
      go_wp2_with fail
      go_end0
      refine ⟨rfl, ?_, HK.out.trans k2⟩
      rw [← HE.out, enc_low hlt]
      exact wr_snoc (by omega) h2
    · have z1 : decide ((128 : Int) ≤ (m : Int)) = true := decide_eq_true (by omega)
      have z2 : (128 : Int) ≤ (m : Int) := by omega
      have hb : ((m % 128 + 128 : Nat) : Int) = (m : Int) % 128 + 128 := by omega
      have z3 := (more_byte m).trans hb
      have HZ := Lib.hid hb
      clear hb
      have hcall := WriteByte_any B b (Lib.byteCells l2) ((m : Int) % 128 + 128) wr HW.out (by rw [Lib.byteCells_length]; omega) (Nat.le_trans hB.out HK.out.size)
      go_wp2_with fail
      go_at_call 49
      try rw [z3]
      refine hcall.mono ?_
      rintro e w2 ⟨rfl, h2, k2⟩
      rw [← HZ.out] at h2
      have h3 := Lib.hid (wr_snoc (by omega) h2)
      have k3 := Lib.hid (HK.out.trans k2)
      clear h2 k2
      go_wp2_with fail
      go_roundw
      case rel => exact ⟨m / 128, l2 ++ [UInt8.ofNat (m % 128 + 128)], by go_num, by omega, Lib.hid (by rw [List.append_assoc, List.singleton_append, ← enc_high hlt]; exact HE.out), h3, k3⟩
      case measure => simp [intOf]; omega

theorem txt_len (s : List UInt8) : (txt s).length = (enc s.length).length + s.length := by unfold txt; rw [List.length_append]
set_option maxHeartbeats 4000000 in
theorem text38_any (B b : Nat) (l s : List UInt8) (w : World) (h : WrAt w B b l) (hlen : l.length + (txt s).length ≤ 1099511627776) (hBw : B ≤ w.heap.size) :
    Calls Tryz.prog 38 #[.pointer (some ⟨b, 0, none⟩), .string (bs s)] w fun e w' => e = .returned (.tuple #[]) ∧ WrAt w' B b (l ++ txt s) ∧ Wrote B b w w' := by
  have hsz : (bs s).size = s.length := rfl
  have htl := txt_len s
  have hs63 : (s.length : Int) ≤ 1099511627776 := by omega
  have hnum := num37_any B b l s.length w h (by omega) (by omega) hBw
  have hz : IntKind.u64.wrap (s.length : Int) = (s.length : Int) := u64_wrap_small _ (by omega)
  go_enter Tryz.func38, Tryz.ntmps38
  go_wp2_with fail
  go_at_call 37
  try rw [hz]
  refine hnum.mono ?_
  rintro e w1 ⟨rfl, h1, k1⟩
  have hcall := WriteString_any B b (l ++ enc s.length) s w1 h1 (by rw [List.length_append]; omega) (Nat.le_trans hBw k1.size)
  clear h1 hnum
  go_wp2_with fail
  go_at_call 50
  refine hcall.mono ?_
  rintro e w2 ⟨rfl, h2, k2⟩
  go_wp2_with fail
  go_end0
  refine ⟨rfl, ?_, k1.trans k2⟩
  unfold txt
  rw [← List.append_assoc]
  exact h2

def encs (ns : List Nat) : List UInt8 := (ns.map enc).flatten
def txts (ss : List (List UInt8)) : List UInt8 := (ss.map txt).flatten
def numCells (ns : List Nat) : Array Value := (ns.map fun (n : Nat) => Value.int .u64 (n : Int)).toArray
def txtCells (ss : List (List UInt8)) : Array Value := (ss.map fun s => Value.string (bs s)).toArray
theorem encs_succ {ns : List Nat} {k : Nat} (h : k < ns.length) : encs (ns.take (k + 1)) = encs (ns.take k) ++ enc (ns[k]'h) := by
  unfold encs
  rw [List.take_succ_eq_append_getElem h]
  simp only [List.map_append, List.flatten_append, List.map_cons, List.map_nil, List.flatten_cons, List.flatten_nil, List.append_nil]
theorem txts_succ {ss : List (List UInt8)} {k : Nat} (h : k < ss.length) : txts (ss.take (k + 1)) = txts (ss.take k) ++ txt (ss[k]'h) := by
  unfold txts
  rw [List.take_succ_eq_append_getElem h]
  simp only [List.map_append, List.flatten_append, List.map_cons, List.map_nil, List.flatten_cons, List.flatten_nil, List.append_nil]
theorem encs_le (ns : List Nat) (k : Nat) : (encs (ns.take k)).length ≤ (encs ns).length := by
  conv => rhs; rw [← List.take_append_drop k ns]
  unfold encs
  rw [List.map_append, List.flatten_append, List.length_append]
  exact Nat.le_add_right _ _
theorem txts_le (ss : List (List UInt8)) (k : Nat) : (txts (ss.take k)).length ≤ (txts ss).length := by
  conv => rhs; rw [← List.take_append_drop k ss]
  unfold txts
  rw [List.map_append, List.flatten_append, List.length_append]
  exact Nat.le_add_right _ _

set_option maxHeartbeats 4000000 in
theorem WNum_any (B b g c : Nat) (l : List UInt8) (ns : List Nat) (t : TypeId) (fr : Nat × Nat) (w : World) (h : WrAt w B b l) (hg : w.heap[g]? = some (.cells (numCells ns) t fr)) (hgb : g ≠ b) (ht : t ≠ 5) (hns : ∀ n ∈ ns, n < 18446744073709551616) (hl : ns.length ≤ 1000)
    (hlen : l.length + (encs ns).length ≤ 1099511627776) (hBw : B ≤ w.heap.size) :
    Calls Tryz.prog 17 #[.pointer (some ⟨b, 0, none⟩), .slice (some ⟨g, 0, none⟩) ns.length c] w fun e w' => e = .returned (.pointer (some ⟨b, 0, none⟩)) ∧ WrAt w' B b (l ++ encs ns) ∧ Wrote B b w w' := by
  have hW := Lib.hid h
  have hG := Lib.hid hg
  have hL := Lib.hid hlen
  have hB := Lib.hid hBw
  clear h hlen hBw hg
  go_enter Tryz.func17, Tryz.ntmps17
  go_wp2_with fail
  go_loopw [6, 11] (fun _ v11 wr => ∃ k : Nat, k ≤ ns.length ∧ v11 = .int .i64 (k : Int) ∧ Hid (WrAt wr B b (l ++ encs (ns.take k))) ∧ Hid (Wrote B b w wr))
    (fun _ v11 _ => ns.length - (intOf v11).toNat)
  case atStart => exact ⟨0, Nat.zero_le _, rfl, Lib.hid (by simpa [encs] using hW.out), Lib.hid (Wrote.refl _ _ _)⟩
  case round =>
    obtain ⟨k, hk, rfl, HW, HK⟩ := hrel
    by_cases hlt : k < ns.length
    · have hkz : (k : Int) < (ns.length : Int) := by omega
      have hk0 : (0 : Int) ≤ (k : Int) := by omega
      have hc : wr.cell? ⟨g, k, none⟩ = some (.int .u64 ((ns[k]'hlt : Nat) : Int)) := by
        unfold World.cell?
        rw [HK.out.kept g _ hG.out (by simpa using hgb) (by intro c fz e; injection e with _ e2; exact ht e2)]
        simp [numCells, hlt]
      have hsucc := Lib.hid (encs_succ hlt)
      have hle := encs_le ns (k + 1)
      rw [hsucc.out, List.length_append] at hle
      have hcall := num37_any B b (l ++ encs (ns.take k)) (ns[k]'hlt) wr HW.out (hns _ (List.getElem_mem hlt)) (by have := hL.out; rw [List.length_append]; omega) (Nat.le_trans hB.out HK.out.size)
      generalize ns[k]'hlt = x at *
      go_wp2_with fail
      go_at_call 37
      refine hcall.mono ?_
      rintro e w2 ⟨rfl, h2, k2⟩
      have h3 : Hid (WrAt w2 B b (l ++ encs (ns.take (k + 1)))) := Lib.hid (by rw [hsucc.out, ← List.append_assoc]; exact h2)
      have k3 := Lib.hid (HK.out.trans k2)
      clear h2 k2 hc hcall
      go_wp2_with fail
      go_roundw
      case rel => exact ⟨k + 1, by omega, by go_num, h3, k3⟩
      case measure => simp [intOf]; omega
    · obtain rfl : k = ns.length := by omega
      have HW2 : Hid (WrAt wr B b (l ++ encs ns)) := Lib.hid (by have := HW.out; rwa [List.take_length] at this)
      go_wp2_with fail
      go_ret
      exact ⟨rfl, HW2.out, HK.out⟩
set_option maxHeartbeats 4000000 in
theorem WText_any (B b g c : Nat) (l : List UInt8) (ss : List (List UInt8)) (t : TypeId) (fr : Nat × Nat) (w : World) (h : WrAt w B b l) (hg : w.heap[g]? = some (.cells (txtCells ss) t fr)) (hgb : g ≠ b) (ht : t ≠ 5) (hl : ss.length ≤ 1000)
    (hlen : l.length + (txts ss).length ≤ 1099511627776) (hBw : B ≤ w.heap.size) :
    Calls Tryz.prog 18 #[.pointer (some ⟨b, 0, none⟩), .slice (some ⟨g, 0, none⟩) ss.length c] w fun e w' => e = .returned (.pointer (some ⟨b, 0, none⟩)) ∧ WrAt w' B b (l ++ txts ss) ∧ Wrote B b w w' := by
  have hW := Lib.hid h
  have hG := Lib.hid hg
  have hL := Lib.hid hlen
  have hB := Lib.hid hBw
  clear h hlen hBw hg
  go_enter Tryz.func18, Tryz.ntmps18
  go_wp2_with fail
  go_loopw [6, 11] (fun _ v11 wr => ∃ k : Nat, k ≤ ss.length ∧ v11 = .int .i64 (k : Int) ∧ Hid (WrAt wr B b (l ++ txts (ss.take k))) ∧ Hid (Wrote B b w wr))
    (fun _ v11 _ => ss.length - (intOf v11).toNat)
  case atStart => exact ⟨0, Nat.zero_le _, rfl, Lib.hid (by simpa [txts] using hW.out), Lib.hid (Wrote.refl _ _ _)⟩
  case round =>
    obtain ⟨k, hk, rfl, HW, HK⟩ := hrel
    by_cases hlt : k < ss.length
    · have hkz : (k : Int) < (ss.length : Int) := by omega
      have hk0 : (0 : Int) ≤ (k : Int) := by omega
      have hc : wr.cell? ⟨g, k, none⟩ = some (.string (bs (ss[k]'hlt))) := by
        unfold World.cell?
        rw [HK.out.kept g _ hG.out (by simpa using hgb) (by intro c fz e; injection e with _ e2; exact ht e2)]
        simp [txtCells, hlt]
      have hsucc := Lib.hid (txts_succ hlt)
      have hle := txts_le ss (k + 1)
      rw [hsucc.out, List.length_append] at hle
      have hcall := text38_any B b (l ++ txts (ss.take k)) (ss[k]'hlt) wr HW.out (by have := hL.out; rw [List.length_append]; omega) (Nat.le_trans hB.out HK.out.size)
      generalize ss[k]'hlt = x at *
      go_wp2_with fail
      go_at_call 38
      refine hcall.mono ?_
      rintro e w2 ⟨rfl, h2, k2⟩
      have h3 : Hid (WrAt w2 B b (l ++ txts (ss.take (k + 1)))) := Lib.hid (by rw [hsucc.out, ← List.append_assoc]; exact h2)
      have k3 := Lib.hid (HK.out.trans k2)
      clear h2 k2 hc hcall
      go_wp2_with fail
      go_roundw
      case rel => exact ⟨k + 1, by omega, by go_num, h3, k3⟩
      case measure => simp [intOf]; omega
    · obtain rfl : k = ss.length := by omega
      have HW2 : Hid (WrAt wr B b (l ++ txts ss)) := Lib.hid (by have := HW.out; rwa [List.take_length] at this)
      go_wp2_with fail
      go_ret
      exact ⟨rfl, HW2.out, HK.out⟩
set_option maxHeartbeats 2000000 in
theorem WString_any (B b : Nat) (l : List UInt8) (w : World) (h : WrAt w B b l) (h0 : l ≠ []) :
    Calls Tryz.prog 19 #[.pointer (some ⟨b, 0, none⟩)] w fun e w' => e = .returned (.string (bs l)) ∧ Wrote B b w w' := by
  have hcall := BuilderString_any B b l w h h0
  clear h
  go_enter Tryz.func19, Tryz.ntmps19
  go_wp2_with fail
  go_at_call 39
  refine hcall.mono ?_
  rintro e w2 ⟨rfl, h2⟩
  go_wp2_with fail
  go_ret
  exact ⟨rfl, h2⟩
end Go.Proofs.YtjiaoppefinljaaGreatDoor.Pk
