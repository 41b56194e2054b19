/- The run of awake, reckoned: MaxLen at most 1. -/
import Derived.Test.YtjiaoppefinljaaGreatDoorAbSm
import Derived.Test.YtjiaoppefinljaaGreatDoorKi
namespace Go.Proofs.YtjiaoppefinljaaGreatDoor.Ab
open Go
set_option maxRecDepth 1000000
noncomputable def list3 : List (FuncId × (List AV → St → Option AV)) := (456, memoV tab456) :: (162, memoV tab162) :: (77, memoV tab77) :: (27, memoV tab27) :: (388, memoV tab388) :: list2
def glA (g : Nat) : Option AV := match Nat.beq g 3 with | true => some (.rng .i64 none (some 1)) | false => none
theorem runA : callF (envOf glA list3) (exec (envOf glA list3) 20000) 4 [] ⟨.lf, 0⟩ (isV (.bool true)) = true := by decide +kernel
end Go.Proofs.YtjiaoppefinljaaGreatDoor.Ab
