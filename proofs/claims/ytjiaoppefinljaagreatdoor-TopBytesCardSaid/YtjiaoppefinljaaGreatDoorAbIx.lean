/- IndexString, where the needle has two bytes and MaxLen is 2 or more. -/
import Derived.Test.YtjiaoppefinljaaGreatDoorAbSm
namespace Go.Proofs.YtjiaoppefinljaaGreatDoor.Ab
open Go
set_option maxRecDepth 1000000
def glB (g : Nat) : Option AV := match Nat.beq g 3 with | true => some (.rng .i64 (some 2) none) | false => none
def ix2 (c d : Nat) : List Nat → Option Nat
  | [] => none
  | a :: l => match l with
    | [] => none
    | b :: _ => (match Nat.beq a c && Nat.beq b d with
      | true => some 0
      | false => (match ix2 c d l with | some i => some (Nat.add i 1) | none => none))
def memoIx (a : List AV) (_ : St) : Option AV :=
  match a with
  | [.str s, .str [c, d]] => (match Nat.blt s.length 1048576 with
    | true => some (.int .i64 (match ix2 c d s with | some i => .ofNat i | none => .negSucc 0))
    | false => none)
  | _ => none
theorem ix2_find {c d : Nat} : ∀ (s : List Nat), (List.range (s.length + 1 - 2)).find? (fun i => decide ((s.drop i).take 2 = [c, d])) = ix2 c d s
  | [] => rfl
  | [a] => rfl
  | a :: b :: l => by
    have ih := ix2_find (c := c) (d := d) (b :: l)
    have e : (a :: b :: l).length + 1 - 2 = l.length + 1 := by simp
    have e2 : (b :: l).length + 1 - 2 = l.length := by simp
    rw [e, Lib.find_range_succ]
    rw [e2] at ih
    have hstep : ix2 c d (a :: b :: l) = (match Nat.beq a c && Nat.beq b d with
      | true => some 0
      | false => (match ix2 c d (b :: l) with | some i => some (Nat.add i 1) | none => none)) := rfl
    rw [hstep, nbeq a c, nbeq b d]
    simp only [List.drop_succ_cons, ih]
    generalize ix2 c d (b :: l) = r
    simp only [List.drop_zero, List.take_succ_cons, List.take_zero, List.cons.injEq, and_true]
    by_cases h1 : a = c
    · by_cases h2 : b = d
      · simp [h1, h2]
      · simp only [h1, h2, and_false, decide_false, decide_true, Bool.and_false]
        cases r <;> rfl
    · simp only [h1, false_and, decide_false, Bool.false_and]
      cases r <;> rfl
theorem run_295 (args : Array Value) (w : World) : (callFunc 295 args).run Tryz.prog w = ((Extern.BytealgIndex.index args).run Tryz.prog w).andThen fun v w' => .ok (.value v) w' :=
  run_callFunc_extern (fn := Tryz.prog.funcs[295]!) (by kernel_rfl) (by kernel_rfl) (by kernel_rfl) (by kernel_rfl) (by kernel_rfl) args w
theorem run_ga (w : World) : (globalAddr "internal/bytealg.MaxLen").run Tryz.prog w = .ok ⟨3, 0, none⟩ w := by kernel_rfl
theorem run_ix {w : World} {m : Int} {T : TypeId} {fr : Nat × Nat} (h : w.heap[3]? = some (.cells #[.int .i64 m] T fr)) (hm : 2 ≤ m) {s : List Nat} {c d : Nat} (hs : ∀ x ∈ s, x < 256) (hcd : ∀ x ∈ [c, d], x < 256) (hl : s.length < 1048576) :
    (Extern.BytealgIndex.index #[.string (bsN s), .string (bsN [c, d])]).run Tryz.prog w = .ok (.int .i64 (match ix2 c d s with | some i => .ofNat i | none => .negSucc 0)) w := by
  have hc : w.cell? ⟨3, 0, none⟩ = some (.int .i64 m) := by simp [World.cell?, h]
  have hml : Extern.BytealgIndex.maxLen.run Tryz.prog w = .ok m w := by
    simp only [Extern.BytealgIndex.maxLen, Sem.run_bind, run_ga, Result.andThen, run_load, hc]
    rfl
  have hsz : (bsN [c, d]).size = 2 := rfl
  have hsz2 : (bsN s).size = s.length := bsN_size s
  have hf : (List.range (s.length + 1 - 2)).find? (fun i => (bsN s).extract i (i + 2) == bsN [c, d]) = ix2 c d s := by
    rw [← ix2_find s]
    refine Lib.find_congr fun i _ => ?_
    rw [bsN_extract, show i + 2 - i = 2 by omega, bsN_eq (fun x hx => hs x (List.mem_of_mem_drop (List.mem_of_mem_take hx))) hcd, leqL_spec]
  have h1 : ¬ ((2 : Nat) < 2 ∨ ((2 : Nat) : Int) > m) := by omega
  have h2 : ¬ (s.length ≥ 2 ^ 32 - 15) := by omega
  change Sem.run Tryz.prog (do
    let a ← Extern.Bytes.bytesOf (.string (bsN s))
    let b ← Extern.Bytes.bytesOf (.string (bsN [c, d]))
    if b.size < 2 || (b.size : Int) > (← Extern.BytealgIndex.maxLen) then
      unsupported (.noEntry "extern/internal/bytealg.Index.length")
    if a.size ≥ 2 ^ 32 - 15 then
      unsupported (.noEntry "extern/internal/bytealg.Index: a haystack of 2^32 - 15 bytes or more")
    match (List.range (a.size + 1 - b.size)).find? fun i => a.extract i (i + b.size) == b with
    | some i => pure (goInt i)
    | none => pure (goInt (-1))) w = _
  have h3 : (decide ((2 : Nat) < 2) || decide (((2 : Nat) : Int) > m)) = false := by simp; omega
  simp only [Extern.Bytes.bytesOf, Sem.run_bind, Sem.run_pure, Result.andThen, hml, hsz, hsz2, h3, Bool.false_eq_true, if_false, if_neg h2, hf]
  cases ix2 c d s <;> rfl
theorem memoIx_ok {F : Nat → Prop} {w0 : World} (hgl : GlOk F w0 glB) : MemoAt Tryz.prog glB F w0 295 memoIx := by
  intro args us σ v ρ w h1 h2 h3
  unfold memoIx at h1
  split at h1
  · rename_i s c d
    split at h1
    · rename_i hl
      rw [nblt] at hl
      have hl := of_decide_eq_true hl
      cases h1
      cases h2 with
      | cons _ u _ _ h hn =>
      cases hn with
      | cons _ u' _ _ h' hn =>
      cases hn
      cases h with
      | str _ hs =>
      cases h' with
      | str _ ht =>
      obtain ⟨hF, u, T, fr, hu, hv⟩ := hgl 3 _ rfl
      have hw : w.heap[3]? = some (.cells #[u] T fr) := by rw [(h3.frame 3 hF).2]; exact hu
      cases hv with
      | rng _ _ _ m q1 q2 =>
      rw [run_295, run_ix hw (q1 2 rfl) hs ht hl]
      exact ⟨ρ, .int _ _, h3, Ext.refl _ _⟩
    · cases h1
  · cases h1
end Go.Proofs.YtjiaoppefinljaaGreatDoor.Ab
