/- One sum of SHA-256, reckoned. -/
import Derived.Test.YtjiaoppefinljaaGreatDoorKh
namespace Go.Proofs.YtjiaoppefinljaaGreatDoor.Ab
open Go
set_option maxRecDepth 1000000
def sumQ1 : List AV := [.str [70, 54, 54, 54, 54, 54, 54, 54, 54, 54, 54, 54, 54, 54, 54, 54, 54, 54, 54, 54, 54, 54, 54, 54, 54, 54, 54, 54, 54, 54, 54, 54, 54, 54, 54, 54, 54, 54, 54, 54, 54, 54, 54, 54, 54, 54, 54, 54, 54, 54, 54, 54, 54, 54, 54, 54, 54, 54, 54, 54, 54, 54, 54, 54], .str [0, 1, 2, 3, 4, 5, 6, 7, 8, 9], .str [0, 0, 0, 1]]
def sumR1 : AV := .str [141, 10, 16, 236, 24, 175, 216, 0, 59, 11, 205, 45, 163, 234, 205, 175, 113, 177, 48, 168, 139, 101, 196, 128, 60, 35, 44, 131, 152, 86, 173, 178]
theorem sum1 : callF E1 (exec E1 20000) 420 [.sl 0 0 3 3 false 1] (sigS 9 sumQ1) (isV sumR1) = true := by decide +kernel
end Go.Proofs.YtjiaoppefinljaaGreatDoor.Ab
