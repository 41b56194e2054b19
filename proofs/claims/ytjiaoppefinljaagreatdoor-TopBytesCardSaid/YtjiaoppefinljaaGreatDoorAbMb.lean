/- The run of awake, reckoned: MaxLen at least 2. -/
import Derived.Test.YtjiaoppefinljaaGreatDoorAbLs
namespace Go.Proofs.YtjiaoppefinljaaGreatDoor.Ab
open Go
set_option maxRecDepth 1000000
theorem runB : callF (envOf glB listB) (exec (envOf glB listB) 20000) 4 [] ⟨.lf, 0⟩ (isV (.bool true)) = true := by decide +kernel
end Go.Proofs.YtjiaoppefinljaaGreatDoor.Ab
