/- awake's contract. -/
import Derived.Test.YtjiaoppefinljaaGreatDoorAbMa
import Derived.Test.YtjiaoppefinljaaGreatDoorAbMb
namespace Go.Proofs.YtjiaoppefinljaaGreatDoor.Ab
open Go
set_option maxRecDepth 1000000
variable {gl : Nat → Option AV} {F : Nat → Prop} {w0 : World}
/-- a run of awake tells of the program's -/
theorem awake_of {w : World} {l : List (FuncId × (List AV → St → Option AV))} (hl : ∀ x ∈ l, MemoAt Tryz.prog gl (Old w) w x.1 x.2) (hgl : GlOk (Old w) w gl) (hrun : callF (envOf gl l) (exec (envOf gl l) 20000) 4 [] ⟨.lf, 0⟩ (isV (.bool true)) = true) :
    InvOk Tryz.prog (fun u w' => u = .bool true ∧ Kept w w') ((callFunc 4 #[]).run Tryz.prog w) := by
  have hE : EnvOk Tryz.prog gl (Old w) w (envOf gl l) := envOf_ok hl
  have hx := exec_sound hE hgl (fun ex hx => dreg_sound hE hx hgl mixed) 20000
  refine (callF_sound hE hx hrun (us := []) .nil (hr_none _ _ w 0)).mono ?_
  rintro u w' ⟨v, σ2, ρ2, g1, g2, g3, g4⟩
  obtain ⟨_, rfl⟩ := isV_spec g1
  cases g2
  exact ⟨rfl, kept_of g3⟩
theorem glOk_A {w : World} {m : Int} {T : TypeId} {fr : Nat × Nat} (h : w.heap[3]? = some (.cells #[.int .i64 m] T fr)) (hm : m ≤ 1) : GlOk (Old w) w glA := fun g v hg => by
  unfold glA at hg
  split at hg
  · rename_i e
    rw [Nat.eq_of_beq_eq_true e]
    cases hg
    exact ⟨heap_lt h, _, _, _, h, .rng _ _ _ _ (fun l hl => by cases hl) (fun l hl => by cases hl; exact hm)⟩
  · cases hg
theorem glOk_B {w : World} {m : Int} {T : TypeId} {fr : Nat × Nat} (h : w.heap[3]? = some (.cells #[.int .i64 m] T fr)) (hm : 2 ≤ m) : GlOk (Old w) w glB := fun g v hg => by
  unfold glB at hg
  split at hg
  · rename_i e
    rw [Nat.eq_of_beq_eq_true e]
    cases hg
    exact ⟨heap_lt h, _, _, _, h, .rng _ _ _ _ (fun l hl => by cases hl; exact hm) (fun l hl => by cases hl)⟩
  · cases hg
/-- awake answers true, and nothing that lay there is turned: whatever MaxLen holds -/
theorem awake_any {w : World} {m : Int} {T : TypeId} {fr : Nat × Nat} (h : w.heap[3]? = some (.cells #[.int .i64 m] T fr)) :
    Calls Tryz.prog 4 #[] w fun e w' => e = .returned (.bool true) ∧ Kept w w' := by
  have key : InvOk Tryz.prog (fun u w' => u = .bool true ∧ Kept w w') ((callFunc 4 #[]).run Tryz.prog w) := by
    by_cases hm : m ≤ 1
    · exact awake_of (listA_ok (glOk_A h hm)) (glOk_A h hm) runA
    · have hg := glOk_B h (show 2 ≤ m by omega)
      exact awake_of (listB_ok hg) hg runB
  have hent : (callFunc 4 #[]).run Tryz.prog w = .ok (.enter 4 #[]) w := by
    have hf : Tryz.prog.funcs[4]? = some (Tryz.prog.funcs[4]!) := by kernel_rfl
    have h1 : ((Tryz.prog.funcs[4]!).name == "runtime.NumGoroutine") = false := by kernel_rfl
    have h2 : (Tryz.prog.funcs[4]!).body.isNone = false := by kernel_rfl
    have h1' : (Tryz.prog.funcs[4]!).name ≠ "runtime.NumGoroutine" := by simpa using h1
    simp only [callFunc, Sem.run_bind, run_program, Result.andThen, hf, h1, h2, Bool.false_eq_true, if_false, Sem.run_pure]
  rw [hent] at key
  have key : CallsIn Fence.wide 0 Tryz.prog 4 #[] w (onRet fun u w' => u = .bool true ∧ Kept w w') := key
  refine (callsIn_wide.1 key).mono ?_
  intro e w' he
  cases e with
  | returned u => exact ⟨by rw [he.1], he.2⟩
  | panicked _ => exact he.elim
  | outgrown => exact he.elim
end Go.Proofs.YtjiaoppefinljaaGreatDoor.Ab
