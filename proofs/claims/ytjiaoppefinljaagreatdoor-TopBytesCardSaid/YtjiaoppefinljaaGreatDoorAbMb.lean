/- The run of awake, reckoned: MaxLen at least 2. -/
import Derived.Test.YtjiaoppefinljaaGreatDoorAbIx
namespace Go.Proofs.YtjiaoppefinljaaGreatDoor.Ab
open Go
set_option maxRecDepth 1000000
noncomputable def list4 : List (FuncId × (List AV → St → Option AV)) := (295, memoIx) :: list3
theorem runB : callF (envOf glB list4) (exec (envOf glB list4) 20000) 4 [] ⟨.lf, 0⟩ (isV (.bool true)) = true := by decide +kernel
end Go.Proofs.YtjiaoppefinljaaGreatDoor.Ab
