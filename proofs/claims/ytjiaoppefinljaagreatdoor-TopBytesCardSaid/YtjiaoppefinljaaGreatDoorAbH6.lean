/- One sum of SHA-256, reckoned. -/
import Derived.Test.YtjiaoppefinljaaGreatDoorKh
namespace Go.Proofs.YtjiaoppefinljaaGreatDoor.Ab
open Go
set_option maxRecDepth 1000000
def sumQ6 : List AV := [.str [44, 92, 92, 92, 92, 92, 92, 92, 92, 92, 92, 92, 92, 92, 92, 92, 92, 92, 92, 92, 92, 92, 92, 92, 92, 92, 92, 92, 92, 92, 92, 92, 92, 92, 92, 92, 92, 92, 92, 92, 92, 92, 92, 92, 92, 92, 92, 92, 92, 92, 92, 92, 92, 92, 92, 92, 92, 92, 92, 92, 92, 92, 92, 92], .str [141, 80, 190, 68, 251, 138, 4, 192, 240, 54, 134, 70, 249, 196, 85, 170, 82, 226, 61, 100, 162, 252, 200, 199, 234, 14, 139, 191, 2, 182, 84, 109]]
def sumR6 : AV := .str [245, 29, 23, 168, 90, 152, 157, 212, 43, 246, 77, 45, 107, 16, 35, 25, 152, 241, 246, 129, 246, 219, 169, 146, 111, 74, 117, 21, 196, 39, 45, 14]
theorem sum6 : callF E1 (exec E1 20000) 420 [.sl 0 0 2 2 false 1] (sigS 9 sumQ6) (isV sumR6) = true := by decide +kernel
end Go.Proofs.YtjiaoppefinljaaGreatDoor.Ab
