/- The sums of SHA-256, together. -/
import Derived.Test.YtjiaoppefinljaaGreatDoorAbH1
import Derived.Test.YtjiaoppefinljaaGreatDoorAbH2
import Derived.Test.YtjiaoppefinljaaGreatDoorAbH3
import Derived.Test.YtjiaoppefinljaaGreatDoorAbH4
import Derived.Test.YtjiaoppefinljaaGreatDoorAbH5
import Derived.Test.YtjiaoppefinljaaGreatDoorAbH6
import Derived.Test.YtjiaoppefinljaaGreatDoorAbH7
import Derived.Test.YtjiaoppefinljaaGreatDoorAbH8
import Derived.Test.YtjiaoppefinljaaGreatDoorAbH9
namespace Go.Proofs.YtjiaoppefinljaaGreatDoor.Ab
open Go
set_option maxRecDepth 100000
variable {gl : Nat → Option AV} {F : Nat → Prop} {w0 : World}
def sums : List (List AV × AV) := [(sumQ1, sumR1), (sumQ2, sumR2), (sumQ3, sumR3), (sumQ4, sumR4), (sumQ5, sumR5), (sumQ6, sumR6), (sumQ7, sumR7), (sumQ8, sumR8), (sumQ9, sumR9)]
theorem sums_ok : MemoAt Tryz.prog gl F w0 420 (memoS 9 sums) := by
  refine memoS_ok (N := 20000) E1_ok mixed fun x hx => ?_
  unfold sums at hx
  simp only [List.mem_cons, List.not_mem_nil, or_false] at hx
  rcases hx with rfl | rfl | rfl | rfl | rfl | rfl | rfl | rfl | rfl
  · exact ⟨rfl, sum1⟩
  · exact ⟨rfl, sum2⟩
  · exact ⟨rfl, sum3⟩
  · exact ⟨rfl, sum4⟩
  · exact ⟨rfl, sum5⟩
  · exact ⟨rfl, sum6⟩
  · exact ⟨rfl, sum7⟩
  · exact ⟨rfl, sum8⟩
  · exact ⟨rfl, sum9⟩
/-- and the sums -/
noncomputable def list2 : List (FuncId × (List AV → St → Option AV)) := (420, memoS 9 sums) :: (452, memoRot) :: base
theorem list2_ok : ∀ x ∈ list2, MemoAt Tryz.prog gl F w0 x.1 x.2 := by
  intro x hx
  unfold list2 at hx
  rcases List.mem_cons.1 hx with rfl | hx
  · exact sums_ok
  · exact base1_ok x hx
end Go.Proofs.YtjiaoppefinljaaGreatDoor.Ab
