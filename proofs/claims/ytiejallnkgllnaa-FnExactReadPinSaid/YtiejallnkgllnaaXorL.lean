/- The XOR of two rows of bytes. -/
import Derived.Test.YtiejallnkgllnaaArr
namespace Go.Proofs.Ytiejallnkgllnaa.B
open Go.RowKit Go.Proofs.YtiejallnkgllnaaW.PrintWords Go.Proofs.YtiejallnkgllnaaW.PrintLast Go.Proofs.YtiejallnkgllnaaW.PrintMore
def xorL (a b : List Int) : List Int := List.zipWith (fun x y => Go.bits .xor .u8 x y) a b
theorem xorL_length (a b : List Int) (h : a.length ≤ b.length) : (xorL a b).length = a.length := by simp [xorL]; omega
end Go.Proofs.Ytiejallnkgllnaa.B
