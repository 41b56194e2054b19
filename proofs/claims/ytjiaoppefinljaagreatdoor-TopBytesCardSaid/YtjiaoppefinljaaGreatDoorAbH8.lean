/- One sum of SHA-256, reckoned. -/
import Derived.Test.YtjiaoppefinljaaGreatDoorKh
namespace Go.Proofs.YtjiaoppefinljaaGreatDoor.Ab
open Go
set_option maxRecDepth 1000000
def sumQ8 : List AV := [.str [44, 92, 92, 92, 92, 92, 92, 92, 92, 92, 92, 92, 92, 92, 92, 92, 92, 92, 92, 92, 92, 92, 92, 92, 92, 92, 92, 92, 92, 92, 92, 92, 92, 92, 92, 92, 92, 92, 92, 92, 92, 92, 92, 92, 92, 92, 92, 92, 92, 92, 92, 92, 92, 92, 92, 92, 92, 92, 92, 92, 92, 92, 92, 92], .str [215, 87, 16, 174, 145, 39, 230, 208, 124, 58, 215, 74, 146, 139, 66, 240, 229, 213, 235, 151, 165, 69, 169, 132, 72, 181, 235, 169, 161, 106, 105, 161]]
def sumR8 : AV := .str [43, 169, 79, 42, 57, 54, 51, 59, 230, 171, 117, 134, 21, 33, 32, 40, 45, 48, 168, 142, 222, 85, 222, 235, 139, 180, 211, 101, 64, 41, 177, 62]
theorem sum8 : callF E1 (exec E1 20000) 420 [.sl 0 0 2 2 false 1] (sigS 9 sumQ8) (isV sumR8) = true := by decide +kernel
end Go.Proofs.YtjiaoppefinljaaGreatDoor.Ab
