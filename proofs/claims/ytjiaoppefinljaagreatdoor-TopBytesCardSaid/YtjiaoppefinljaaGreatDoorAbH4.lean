/- One sum of SHA-256, reckoned. -/
import Derived.Test.YtjiaoppefinljaaGreatDoorKh
namespace Go.Proofs.YtjiaoppefinljaaGreatDoor.Ab
open Go
set_option maxRecDepth 1000000
def sumQ4 : List AV := [.str [44, 92, 92, 92, 92, 92, 92, 92, 92, 92, 92, 92, 92, 92, 92, 92, 92, 92, 92, 92, 92, 92, 92, 92, 92, 92, 92, 92, 92, 92, 92, 92, 92, 92, 92, 92, 92, 92, 92, 92, 92, 92, 92, 92, 92, 92, 92, 92, 92, 92, 92, 92, 92, 92, 92, 92, 92, 92, 92, 92, 92, 92, 92, 92], .str [198, 91, 202, 171, 151, 232, 81, 61, 235, 148, 160, 136, 80, 112, 195, 27, 118, 151, 76, 0, 240, 10, 20, 215, 245, 244, 201, 151, 113, 167, 194, 151]]
def sumR4 : AV := .str [97, 103, 68, 241, 116, 142, 224, 151, 107, 61, 177, 192, 175, 21, 85, 79, 103, 180, 165, 245, 203, 133, 20, 135, 215, 75, 126, 10, 245, 110, 9, 126]
theorem sum4 : callF E1 (exec E1 20000) 420 [.sl 0 0 2 2 false 1] (sigS 9 sumQ4) (isV sumR4) = true := by decide +kernel
end Go.Proofs.YtjiaoppefinljaaGreatDoor.Ab
