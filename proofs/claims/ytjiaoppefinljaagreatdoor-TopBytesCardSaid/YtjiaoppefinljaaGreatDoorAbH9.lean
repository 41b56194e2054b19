/- One sum of SHA-256, reckoned. -/
import Derived.Test.YtjiaoppefinljaaGreatDoorKh
namespace Go.Proofs.YtjiaoppefinljaaGreatDoor.Ab
open Go
set_option maxRecDepth 1000000
def sumQ9 : List AV := [.str [1], .str [98, 105, 102, 113, 121, 100, 105, 111, 98, 52, 105, 98, 99, 101, 113, 116]]
def sumR9 : AV := .str [23, 209, 236, 204, 10, 11, 169, 36, 225, 128, 7, 98, 178, 9, 90, 147, 193, 240, 232, 18, 208, 138, 29, 153, 130, 229, 86, 186, 244, 217, 203, 202]
theorem sum9 : callF E1 (exec E1 20000) 420 [.sl 0 0 2 2 false 1] (sigS 9 sumQ9) (isV sumR9) = true := by decide +kernel
end Go.Proofs.YtjiaoppefinljaaGreatDoor.Ab
