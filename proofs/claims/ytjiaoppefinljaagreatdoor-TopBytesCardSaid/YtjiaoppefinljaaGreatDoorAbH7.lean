/- One sum of SHA-256, reckoned. -/
import Derived.Test.YtjiaoppefinljaaGreatDoorKh
namespace Go.Proofs.YtjiaoppefinljaaGreatDoor.Ab
open Go
set_option maxRecDepth 1000000
def sumQ7 : List AV := [.str [70, 54, 54, 54, 54, 54, 54, 54, 54, 54, 54, 54, 54, 54, 54, 54, 54, 54, 54, 54, 54, 54, 54, 54, 54, 54, 54, 54, 54, 54, 54, 54, 54, 54, 54, 54, 54, 54, 54, 54, 54, 54, 54, 54, 54, 54, 54, 54, 54, 54, 54, 54, 54, 54, 54, 54, 54, 54, 54, 54, 54, 54, 54, 54], .str [245, 29, 23, 168, 90, 152, 157, 212, 43, 246, 77, 45, 107, 16, 35, 25, 152, 241, 246, 129, 246, 219, 169, 146, 111, 74, 117, 21, 196, 39, 45, 14]]
def sumR7 : AV := .str [215, 87, 16, 174, 145, 39, 230, 208, 124, 58, 215, 74, 146, 139, 66, 240, 229, 213, 235, 151, 165, 69, 169, 132, 72, 181, 235, 169, 161, 106, 105, 161]
theorem sum7 : callF E1 (exec E1 20000) 420 [.sl 0 0 2 2 false 1] (sigS 9 sumQ7) (isV sumR7) = true := by decide +kernel
end Go.Proofs.YtjiaoppefinljaaGreatDoor.Ab
