/- One sum of SHA-256, reckoned. -/
import Derived.Test.YtjiaoppefinljaaGreatDoorKh
namespace Go.Proofs.YtjiaoppefinljaaGreatDoor.Ab
open Go
set_option maxRecDepth 1000000
def sumQ5 : List AV := [.str [70, 54, 54, 54, 54, 54, 54, 54, 54, 54, 54, 54, 54, 54, 54, 54, 54, 54, 54, 54, 54, 54, 54, 54, 54, 54, 54, 54, 54, 54, 54, 54, 54, 54, 54, 54, 54, 54, 54, 54, 54, 54, 54, 54, 54, 54, 54, 54, 54, 54, 54, 54, 54, 54, 54, 54, 54, 54, 54, 54, 54, 54, 54, 54], .str [97, 103, 68, 241, 116, 142, 224, 151, 107, 61, 177, 192, 175, 21, 85, 79, 103, 180, 165, 245, 203, 133, 20, 135, 215, 75, 126, 10, 245, 110, 9, 126]]
def sumR5 : AV := .str [141, 80, 190, 68, 251, 138, 4, 192, 240, 54, 134, 70, 249, 196, 85, 170, 82, 226, 61, 100, 162, 252, 200, 199, 234, 14, 139, 191, 2, 182, 84, 109]
theorem sum5 : callF E1 (exec E1 20000) 420 [.sl 0 0 2 2 false 1] (sigS 9 sumQ5) (isV sumR5) = true := by decide +kernel
end Go.Proofs.YtjiaoppefinljaaGreatDoor.Ab
