/- The law: any bytes, any events. -/
import Derived.Test.YtjiaoppefinljaaGreatDoorJh
import Derived.Test.YtjiaoppefinljaaGreatDoorAbWk
import Derived.Deep.DeepCutAuto
namespace Go.Proofs.YtjiaoppefinljaaGreatDoor.Pk
open Go.RowKit
set_option maxRecDepth 100000

theorem bs_take' (s : List UInt8) (n : Nat) : (bs s).extract 0 n = bs (s.take n) := bs_take s n
def rqCode (x : Option Rq) : Int := if x.isSome then 0 else 10
def rqVal (x : Option Rq) : Rq := x.getD noRq
theorem readV_eq (s : List UInt8) : readV s = .tuple #[(rqVal (readR s)).val, .int .i64 (rqCode (readR s))] := rfl
/-- an event, cut -/
def cutE (e : Ev) : Ev := { e with a := e.a.take 100, b := e.b.take 100, c := e.c.take 100 }
/-- the events that may be, of the first ones -/
def filt (f : Nat → Ev) (k : Nat) : List Ev := ((List.range k).map fun i => cutE (f i)).filter fun e => checkE e
theorem filt_succ (f : Nat → Ev) (k : Nat) : filt f (k + 1) = if checkE (cutE (f k)) = true then filt f k ++ [cutE (f k)] else filt f k := by
  unfold filt
  rw [List.range_succ, List.map_append, List.filter_append]
  by_cases h : checkE (cutE (f k)) = true
  · rw [if_pos h]; simp [h]
  · rw [if_neg h]; simp [h]
theorem filt_ok (f : Nat → Ev) (k : Nat) : ∀ e ∈ filt f k, checkE e = true := fun _ he => (List.mem_filter.1 he).2
theorem filt_len (f : Nat → Ev) (k : Nat) : (filt f k).length ≤ k := by
  unfold filt
  refine Nat.le_trans (List.length_filter_le _ _) ?_
  simp
/-- events as they came in -/
def EvRaw (w : World) (A : Option Addr) (n : Nat) (f : Nat → Ev) : Prop :=
  ∀ i, i < n → ((f i).a.length ≤ maxLen ∧ (f i).b.length ≤ maxLen ∧ (f i).c.length ≤ maxLen) ∧ ∃ ad, A = some ad ∧ ad.block < w.heap.size ∧ EvAt w (ad.add (i * 8)) (f i)
theorem EvRaw.below {w w' : World} {A : Option Addr} {n : Nat} {f : Nat → Ev} (h : EvRaw w A n f) (hb : Below w.heap.size w w') : EvRaw w' A n f := by
  intro i hi
  obtain ⟨hs, ad, e, hl, ha⟩ := h i hi
  exact ⟨hs, ad, e, Nat.lt_of_lt_of_le hl hb.size, ha.below hb (by rw [blk_add]; exact hl)⟩
theorem neq35 (e : Ev) (W : World) : (binOp .neq 35 (.agg #[.int .i64 e.kind, .int .i64 e.account, .int .i64 e.purpose, .int .i64 e.at_, .int .i64 e.n, .string (bs e.a), .string (bs e.b), .string (bs e.c)]) (.agg #[.int .i64 e.kind, .int .i64 e.account, .int .i64 e.purpose, .int .i64 e.at_, .int .i64 e.n, .string (bs e.a), .string (bs e.b), .string (bs e.c)])).run Tryz.prog W = .ok (.bool false) W := by
  simp [binOp, Op.equal, Op.maxDepth, go_sem]
theorem rdList_ok {s : List UInt8} : ∀ e ∈ rdList (readB s), checkE e = true := by
  intro e he
  unfold rdList at he
  cases h : readB s with
  | none => rw [h] at he; simp at he
  | some l =>
    rw [h] at he
    have hb := readB_batch h
    unfold batchB at hb
    split at hb
    · rename_i hc; exact hc.2.2 e he
    · cases hb
theorem rdList_len {s : List UInt8} : (rdList (readB s)).length ≤ 24 := by
  unfold rdList
  cases h : readB s with
  | none => simp
  | some l =>
    have hb := readB_batch h
    unfold batchB at hb
    split at hb
    · rename_i hc; exact hc.2.1
    · cases hb
/-- a batch that was read is written back -/
theorem back {s : List UInt8} {l : List Ev} (h : readB s = some l) : batchL l = s ∧ batchC l = 0 := by
  have hb := readB_batch h
  unfold batchB at hb
  split at hb
  · rename_i hc
    have h0 : l.length ≠ 0 := by omega
    unfold batchL batchC
    rw [if_neg h0, if_neg h0]
    exact ⟨Option.some.inj hb, rfl⟩
  · cases hb
theorem forth {l : List Ev} (h : ∀ e ∈ l, checkE e = true) (h24 : l.length ≤ 24) (h0 : l.length ≠ 0) : readB (batchL l) = some l := batch_readB (batchB_L h h24 h0)
theorem kept_below {w w' : World} (h : Ab.Kept w w') : Below w.heap.size w w' := ⟨h.1, h.2, h.3, h.4, h.5⟩
end Go.Proofs.YtjiaoppefinljaaGreatDoor.Pk
