/- The run of awake, reckoned: MaxLen at most 1. -/
import Derived.Test.YtjiaoppefinljaaGreatDoorAbLs
namespace Go.Proofs.YtjiaoppefinljaaGreatDoor.Ab
open Go
set_option maxRecDepth 1000000
theorem runA : callF (envOf glA listA) (exec (envOf glA listA) 20000) 4 [] ⟨.lf, 0⟩ (isV (.bool true)) = true := by decide +kernel
end Go.Proofs.YtjiaoppefinljaaGreatDoor.Ab
