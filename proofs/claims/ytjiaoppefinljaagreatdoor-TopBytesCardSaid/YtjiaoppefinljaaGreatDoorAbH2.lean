/- One sum of SHA-256, reckoned. -/
import Derived.Test.YtjiaoppefinljaaGreatDoorKh
namespace Go.Proofs.YtjiaoppefinljaaGreatDoor.Ab
open Go
set_option maxRecDepth 1000000
def sumQ2 : List AV := [.str [44, 92, 92, 92, 92, 92, 92, 92, 92, 92, 92, 92, 92, 92, 92, 92, 92, 92, 92, 92, 92, 92, 92, 92, 92, 92, 92, 92, 92, 92, 92, 92, 92, 92, 92, 92, 92, 92, 92, 92, 92, 92, 92, 92, 92, 92, 92, 92, 92, 92, 92, 92, 92, 92, 92, 92, 92, 92, 92, 92, 92, 92, 92, 92], .str [141, 10, 16, 236, 24, 175, 216, 0, 59, 11, 205, 45, 163, 234, 205, 175, 113, 177, 48, 168, 139, 101, 196, 128, 60, 35, 44, 131, 152, 86, 173, 178]]
def sumR2 : AV := .str [26, 65, 85, 5, 169, 227, 45, 218, 154, 222, 225, 5, 108, 197, 145, 120, 80, 79, 101, 151, 7, 237, 218, 192, 21, 64, 151, 201, 84, 206, 201, 81]
theorem sum2 : callF E1 (exec E1 20000) 420 [.sl 0 0 2 2 false 1] (sigS 9 sumQ2) (isV sumR2) = true := by decide +kernel
end Go.Proofs.YtjiaoppefinljaaGreatDoor.Ab
