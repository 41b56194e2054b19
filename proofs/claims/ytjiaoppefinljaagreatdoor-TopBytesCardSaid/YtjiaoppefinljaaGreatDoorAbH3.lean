/- One sum of SHA-256, reckoned. -/
import Derived.Test.YtjiaoppefinljaaGreatDoorKh
namespace Go.Proofs.YtjiaoppefinljaaGreatDoor.Ab
open Go
set_option maxRecDepth 1000000
def sumQ3 : List AV := [.str [70, 54, 54, 54, 54, 54, 54, 54, 54, 54, 54, 54, 54, 54, 54, 54, 54, 54, 54, 54, 54, 54, 54, 54, 54, 54, 54, 54, 54, 54, 54, 54, 54, 54, 54, 54, 54, 54, 54, 54, 54, 54, 54, 54, 54, 54, 54, 54, 54, 54, 54, 54, 54, 54, 54, 54, 54, 54, 54, 54, 54, 54, 54, 54], .str [26, 65, 85, 5, 169, 227, 45, 218, 154, 222, 225, 5, 108, 197, 145, 120, 80, 79, 101, 151, 7, 237, 218, 192, 21, 64, 151, 201, 84, 206, 201, 81]]
def sumR3 : AV := .str [198, 91, 202, 171, 151, 232, 81, 61, 235, 148, 160, 136, 80, 112, 195, 27, 118, 151, 76, 0, 240, 10, 20, 215, 245, 244, 201, 151, 113, 167, 194, 151]
theorem sum3 : callF E1 (exec E1 20000) 420 [.sl 0 0 2 2 false 1] (sigS 9 sumQ3) (isV sumR3) = true := by decide +kernel
end Go.Proofs.YtjiaoppefinljaaGreatDoor.Ab
